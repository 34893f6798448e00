/- Rules for values. -/
import Derived.Test.YtdkokbhcjmapdaaGreatDoorLShbX
set_option linter.unusedSimpArgs false
set_option linter.unusedVariables false
namespace Go.Sha
structure Sup {β:Type} (X:Nat→Option β) (x:Option β):Prop where
 mono:∀m r,X m=some r→X (m+1)=some r
 le:∀m r,X m=some r→x=some r
 up:∀r,x=some r→∃m,X m=some r
theorem Sup.mono' {β : Type}{X : Nat → Option β}{x : Option β}(h : Sup X x){m n : Nat}(hn : m ≤ n){r : β}(hr : X m = some r) : X n = some r := by
  induction n with
  | zero => have : m = 0 := by omega
            subst this; exact hr
  | succ n ih => rcases Nat.lt_or_ge n m with h' | h'
                 · have : m = n + 1 := by omega
                   subst this; exact hr
                 · exact h.mono n r (ih h')
theorem Sup.const {β:Type}(x:Option β):Sup (fun _=>x) x:=⟨fun _ _ h=>h,fun _ _ h=>h,fun _ h=>⟨0,h⟩⟩
theorem Sup.strict {β γ:Type}{A:Nat→Option β}{a:Option β}(hA:Sup A a){G:Nat→Option β→Option γ}{g:Option β→Option γ}(h0:∀m,G m none=none)(h1:g none=none)(h:∀z,Sup (fun m=>G m (some z)) (g (some z))) :
  Sup (fun m=>G m (A m)) (g a) where
 mono m r hr:=by
  cases e:A m with
  |none=>rw[e,h0]at hr;cases hr
  |some z=>rw[e]at hr;rw[hA.mono m z e];exact(h z).mono m r hr
 le m r hr:=by
  cases e:A m with
  |none=>rw[e,h0]at hr;cases hr
  |some z=>rw[e]at hr;rw[hA.le m z e];exact(h z).le m r hr
 up r hr:=by
  cases e:a with
  |none=>rw[e,h1]at hr;cases hr
  |some z =>
   rw[e]at hr
   obtain⟨m1,k1⟩:=hA.up z e
   obtain⟨m2,k2⟩:=(h z).up r hr
   exact⟨max m1 m2,by
    show G (max m1 m2) (A (max m1 m2))=_
    rw[hA.mono' (Nat.le_max_left _ _) k1];exact(h z).mono' (Nat.le_max_right _ _) k2⟩
theorem Sup.map {β γ:Type}{A:Nat→Option β}{a:Option β}(hA:Sup A a){g:Option β→Option γ}(h1:g none=none):Sup (fun m=>g (A m)) (g a) :=
 hA.strict (fun _=>h1) h1 (fun _=>.const _)
theorem Sup.lub {β : Type}{X : Nat → Option β}(hm : ∀ m r, X m = some r → X (m + 1) = some r) : Sup X (Sha.lub X) := by
  have mono' : ∀ {m n : Nat} {r : β}, m ≤ n → X m = some r → X n = some r := fun {m n r} h hr => by
    induction n with
    | zero => have : m = 0 := by omega
              subst this; exact hr
    | succ n ih => rcases Nat.lt_or_ge n m with h' | h'
                   · have : m = n + 1 := by omega
                     subst this; exact hr
                   · exact hm n r (ih h')
  refine ⟨hm, fun m r hr => ?_, fun r hr => lub_some hr⟩
  have hex : ∃ n b, X n = some b := ⟨m, r, hr⟩
  obtain ⟨b, hb⟩ := Classical.choose_spec hex
  have e : Sha.lub X = X (Classical.choose hex) := by unfold Sha.lub; rw [dif_pos hex]
  rw [e, hb]
  have k1 := mono' (Nat.le_max_left m (Classical.choose hex)) hr
  have k2 := mono' (Nat.le_max_right m (Classical.choose hex)) hb
  rw [k1] at k2; exact k2.symm
theorem Sup.unique {β:Type}{X:Nat→Option β}{x y:Option β}(h:Sup X x)(k:Sup X y):x=y:=by
 cases e:x with
 |none=>cases e':y with
  |none=>rfl
  |some r=>obtain⟨m,hm⟩:=k.up r e';rw[h.le m r hm]at e;cases e
 |some r=>obtain⟨m,hm⟩:=h.up r e;exact(k.le m r hm).symm
theorem Sup.tail {β:Type}{X:Nat→Option β}{x:Option β}(h:Sup X x):Sup (fun m=>X (m+1)) x :=
 ⟨fun m r hr=>h.mono _ r hr,fun m r hr=>h.le _ r hr,fun r hr=>by obtain⟨m,hm⟩:=h.up r hr;exact⟨m,h.mono m r hm⟩⟩
section
variable {E:Nat→EvF}{F:EvF} (hE:(∀m,(E m).raw=F.raw)∧∀k a s,Sup (fun m=>E m k a s) (F k a s))
theorem guardR_sup {A B:Nat→Rc}{a b:Rc}(h1:Sup A a)(h2:Sup B b){g:Option Bool}:Sup (fun m=>guardR (A m) (B m) g) (guardR a b g):=by
 cases g with
 |none=>exact .const _
 |some t=>cases t<;>simp only[guardR]<;>simp only[Bool.false_eq_true,if_false,if_true]<;>assumption
theorem gd_sup {A B:Nat→Env→Rc}{a b:Env→Rc}(h1:∀e,Sup (fun m=>A m e) (a e))(h2:∀e,Sup (fun m=>B m e) (b e)){j:Nat}{t:Bool}{env:Env}{o:Option V}:Sup (fun m=>gd (A m) (B m) j t env o) (gd a b j t env o):=by
 unfold gd
 split
 ·cases t<;>split<;>simp only[Bool.false_eq_true,if_false,if_true]<;>first|exact h1 _|exact h2 _
 ·exact h2 _
 ·exact .const _
include hE
theorem callE_sup {st:St}{args:List V}{f:V}:Sup (fun m=>callE (E m) st args f) (callE F st args f):=by
 unfold callE
 split
 ·simp only[hE.1];exact hE.2 _ _ _
 ·exact .const _
theorem insE_sup {env:Env}{st:St}{K:Nat→V→St→Rc}{k:V→St→Rc}(hk:∀v s,Sup (fun m=>K m v s) (k v s)){op:SOp}:Sup (fun m=>insE (E m) env st (K m) op) (insE F env st k op):=by
 cases op
 case call f args =>
  simp only[insE]
  refine(callE_sup hE).strict (fun _=>rfl) rfl (fun z=>?_)
  obtain⟨z,s⟩:=z
  cases z with
  |ret v=>exact hk v s
  |pan v=>exact .const _
 case panic x=>exact .const _
 case nilk ne x =>
  simp only[insE]
  cases x.get env<;>try exact .const _
  ·exact hk _ _
  ·rename_i l;cases l<;>first|exact .const _|exact hk _ _
  ·rename_i l;cases l<;>first|exact .const _|exact hk _ _
  ·rename_i id n
   cases n with
   |zero=>exact .const _
   |succ n =>
    simp only[nilE]
    split
    ·split
     ·exact hk _ _
     ·exact .const _
    ·exact .const _
 all_goals
  simp only[insE]
  generalize stv _ env st=z
  cases z with
  |none=>exact .const _
  |some z=>exact hk z.1 z.2
theorem evOps_sup:∀{l:List Ins}{env:Env}{st:St},Sup (fun m=>evOps (E m) l env st) (evOps F l env st)
 |[],env,st=>.const _
 |⟨d,op,none⟩::r,env,st=>by
  simp only[evOps]
  exact insE_sup hE fun v s=>evOps_sup
 |⟨d,op,some (j,b)⟩::r,env,st=>by
  simp only[evOps]
  exact gd_sup (fun e=>insE_sup hE fun v s=>evOps_sup) fun e=>evOps_sup
theorem evOne_sup {i:Ins}{env:Env}{st:St}{K:Nat→Env→St→Rc}{k:Env→St→Rc}(hk:∀e s,Sup (fun m=>K m e s) (k e s)):Sup (fun m=>evOne (E m) i env st (K m)) (evOne F i env st k):=by
 unfold evOne
 exact guardR_sup (insE_sup hE fun v s=>hk _ _) (hk _ _)
theorem insQ_sup {env:Env}{st:St}{K:Nat→V→Rc}{k:V→Rc}(hk:∀v,Sup (fun m=>K m v) (k v)){op:SOp}:Sup (fun m=>insQ (E m) env st (K m) op) (insQ F env st k op):=by
 cases op
 case call f args =>
  simp only[insQ]
  refine(callE_sup hE).strict (fun _=>rfl) rfl (fun z=>?_)
  obtain⟨z,s⟩:=z
  cases z with
  |ret v =>
   simp only[quietR]
   split
   ·exact hk v
   ·exact .const _
  |pan v=>exact .const _
 all_goals
  simp only[insQ]
  generalize evs _ env st=z
  cases z with
  |none=>exact .const _
  |some z=>exact hk z
theorem evQ_sup {K:Nat→List V→Env→Rc}{k:List V→Env→Rc}(hk:∀v e,Sup (fun m=>K m v e) (k v e)){st:St}:∀{l:List Ins}{env:Env}{acc:List V},Sup (fun m=>evQ (E m) (K m) l env st acc) (evQ F k l env st acc)
 |[],env,acc=>hk _ _
 |⟨d,op,none⟩::r,env,acc=>by
  simp only[evQ]
  exact insQ_sup hE fun v=>evQ_sup hk
 |⟨d,op,some (j,b)⟩::r,env,acc=>by
  simp only[evQ]
  exact gd_sup (fun e=>insQ_sup hE fun v=>evQ_sup hk) fun e=>evQ_sup hk
theorem evQ1_sup {i:Ins}{env:Env}{st:St}{K:Nat→Env→Rc}{k:Env→Rc}(hk:∀e,Sup (fun m=>K m e) (k e)):Sup (fun m=>evQ1 (E m) i env st (K m)) (evQ1 F i env st k):=by
 unfold evQ1
 exact guardR_sup (insQ_sup hE fun v=>hk _) (hk _)
theorem sameE_sup {d:Option Nat}{v:V}{env:Env}{K:Nat→Rc}{k:Rc}(hk:Sup K k):Sup (fun m=>sameE d v env (K m)) (sameE d v env k):=by
 have _:=hE
 cases d with
 |none=>exact hk
 |some s =>
  simp only[sameE,sameO]
  split
  ·exact hk
  ·exact .const _
theorem reE_sup {K:Nat→Rc}{k:Rc}(hk:Sup K k){st:St}:∀{l:List Ran},Sup (fun m=>reE (E m) st (K m) l) (reE F st k l)
 |[]=>hk
 |x::r=>by simp only[reE];exact evQ1_sup hE fun e=>sameE_sup hE (reE_sup hk)
theorem lateE_sup {K:Nat→Rc}{k:Rc}(hk:Sup K k){i:Ins}{env:Env}{v:V}:∀{l:List St},Sup (fun m=>lateE (E m) i env v (K m) l) (lateE F i env v k l)
 |[]=>hk
 |x::r=>by simp only[lateE];exact evQ1_sup hE fun e=>sameE_sup hE (lateE_sup hk)
theorem normR_sup {K:Nat→Env→St→Rc}{k:Env→St→Rc}(hk:∀e s,Sup (fun m=>K m e s) (k e s)){A:Nat→Rc}{a:Rc}(hA:Sup A a):Sup (fun m=>normR (K m) (A m)) (normR k a) :=
 hA.strict (fun _=>rfl) rfl (fun z=>by
  have _:=hE
  obtain⟨x,e,s⟩:=z
  cases x<;>first|exact hk e s|exact .const _)
theorem seqR_sup {K:Nat→Env→St→Rc}{k:Env→St→Rc}(hk:∀e s,Sup (fun m=>K m e s) (k e s)){A:Nat→Rc}{a:Rc}(hA:Sup A a):Sup (fun m=>seqR (K m) (A m)) (seqR k a) :=
 hA.strict (fun _=>rfl) rfl (fun z=>by
  have _:=hE
  obtain⟨x,e,s⟩:=z
  cases x<;>first|exact hk e s|exact .const _)
theorem evG_sup:∀{l:List Ins}{fs:List (List Bool)}{env:Env}{st:St}{h:List Ran}{hs:List St},Sup (fun m=>evG (E m) l fs env st h hs) (evG F l fs env st h hs)
 |[],fs,env,st,h,hs=>.const _
 |i::r,fs,env,st,h,hs=>by
  unfold evG
  split
  ·exact evQ1_sup hE fun e=>lateE_sup hE evG_sup
  ·exact normR_sup hE (fun e s=>reE_sup hE evG_sup) (evOne_sup hE fun e s=>.const _)
omit hE in
theorem frzR_sup {K:Nat→Env→St→Rc}{k:Env→St→Rc}(hk:∀e s,Sup (fun m=>K m e s) (k e s)):∀{l:List Nat}{env:Env}{st:St},Sup (fun m=>frzR (K m) l env st) (frzR k l env st)
 |[],env,st=>hk env st
 |t::r,env,st=>by
  unfold frzR
  split
  ·split
   ·exact frzR_sup hk
   ·exact frzR_sup hk
  ·exact frzR_sup hk
omit hE in
theorem ownR_sup {K:Nat→Env→St→Rc}{k:Env→St→Rc}(hk:∀e s,Sup (fun m=>K m e s) (k e s)):∀{l:List (Nat×Nat×Nat)}{env:Env}{st:St},Sup (fun m=>ownR (K m) l env st) (ownR k l env st)
 |[],env,st=>hk env st
 |(t,e,es)::r,env,st=>by
  unfold ownR
  split
  ·split<;>exact ownR_sup hk
  ·exact ownR_sup hk
omit hE in
theorem seqR_sup' {K:Nat→Env→St→Rc}{k:Env→St→Rc}(hk:∀e s,Sup (fun m=>K m e s) (k e s)){A:Nat→Rc}{a:Rc}(hA:Sup A a):Sup (fun m=>seqR (K m) (A m)) (seqR k a) :=
 hA.strict (fun _=>rfl) rfl (fun z=>by
  obtain⟨x,e,s⟩:=z
  cases x<;>first|exact hk e s|exact .const _)
omit hE in
theorem evL_sup {f:Nat→Env→St→Rc}{g:Env→St→Rc}(hf:∀e s,Sup (fun m=>f m e s) (g e s)){lv:List Nat}{nx:Nat}:∀(n:Nat) {env:Env}{st:St},Sup (fun m=>evL (f m) lv nx n env st) (evL g lv nx n env st)
 |0,env,st=>.const _
 |n+1,env,st=>by simp only[evL];exact seqR_sup' (fun e s=>evL_sup hf n) ((hf env st).map rfl)
theorem evC_sup:∀(n:Nat) {c:Cd}{env:Env}{st:St},Sup (fun m=>evC (E m) n c env st) (evC F n c env st)
 |0,c,env,st=>by simp only[evC];exact .const _
 |n+1,c,env,st=>by
  cases c with
  |skip=>simp only[evC];exact .const _
  |exit lv id=>simp only[evC];exact .const _
  |ret lv=>simp only[evC];exact .const _
  |bad=>simp only[evC];exact .const _
  |reg l=>simp only[evC];exact evOps_sup hE
  |dreg m l=>simp only[evC];exact evQ_sup hE fun v e=>evOps_sup hE
  |greg fs l=>simp only[evC];exact evG_sup hE
  |seq a b=>simp only[evC];exact seqR_sup hE (fun e s=>evC_sup n) (evC_sup n)
  |join lv a b=>simp only[evC];exact seqR_sup hE (fun e s=>evC_sup n) ((evC_sup n).map rfl)
  |cond o a b =>
   simp only[evC]
   cases o.get env<;>try exact .const _
   rename_i t
   cases t<;>simp only[condR]<;>simp only[Bool.false_eq_true,if_false,if_true]<;>exact evC_sup n
  |block id a =>
   simp only[evC]
   exact(evC_sup n).map rfl
  |loop lv ow a=>simp only[evC];exact ownR_sup fun e s=>evL_sup (fun e s=>evC_sup n) n
  |frz l a=>simp only[evC];exact frzR_sup fun e s=>evC_sup n
end
section
variable {E:EvF}
theorem evL_le {f g:Env→St→Rc}(hf:∀e s r,f e s=some r→g e s=some r){lv:List Nat}{nx:Nat}:∀(n m:Nat) {env:Env}{st:St}{r},n≤m→evL f lv nx n env st=some r→evL g lv nx m env st=some r
 |0,m,env,st,r,_,h=>by simp only[evL]at h;cases h
 |n+1,0,env,st,r,hm,h=>by omega
 |n+1,m+1,env,st,r,hm,h=>by
  rw[evL]at h ⊢
  cases e:f env st with
  |none=>rw[e]at h;cases h
  |some z =>
   obtain⟨x,e1,s1⟩:=z
   rw[e]at h;rw[hf _ _ _ e]
   cases x<;>first|exact evL_le hf n m (by omega) h|exact h
theorem evC_fuel:∀(n:Nat) {c:Cd}{env:Env}{st:St}{r},evC E n c env st=some r→evC E (n+1) c env st=some r
 |0,c,env,st,r,h=>by simp only[evC]at h;cases h
 |n+1,c,env,st,r,h=>by
  have ih:∀{c:Cd}{env:Env}{st:St}{r},evC E n c env st=some r→evC E (n+1) c env st=some r:=fun h=>evC_fuel n h
  cases c with
  |skip=>simp only[evC]at h ⊢;exact h
  |exit lv id=>simp only[evC]at h ⊢;exact h
  |ret lv=>simp only[evC]at h ⊢;exact h
  |bad=>simp only[evC]at h ⊢;exact h
  |reg l=>simp only[evC]at h ⊢;exact h
  |dreg m l=>simp only[evC]at h ⊢;exact h
  |greg fs l=>simp only[evC]at h ⊢;exact h
  |seq a b =>
   rw[evC]at h ⊢
   cases e:evC E n a env st with
   |none=>rw[e]at h;cases h
   |some z =>
    obtain⟨x,e1,s1⟩:=z
    rw[e]at h;rw[ih e]
    cases x<;>first|exact ih h|exact h
  |join lv a b =>
   rw[evC]at h ⊢
   cases e:evC E n a env st with
   |none=>rw[e]at h;cases h
   |some z =>
    obtain⟨x,e1,s1⟩:=z
    rw[e]at h;rw[ih e]
    cases x<;>first|exact ih h|exact h
  |cond o a b =>
   rw[evC]at h ⊢
   cases ho:o.get env<;>rw[ho]at h<;>simp only[condR]at h ⊢<;>try (cases h;done)
   split at h
   ·rename_i e;rw[if_pos e];exact ih h
   ·rename_i e;rw[if_neg e];exact ih h
  |block id a =>
   rw[evC]at h ⊢
   cases e:evC E n a env st with
   |none=>rw[e]at h;cases h
   |some z=>rw[e]at h;rw[ih e];exact h
  |loop lv ow a =>
   rw[evC]at h ⊢
   have hO:∀{l:List (Nat×Nat×Nat)}{env:Env}{st:St}{K K':Env→St→Rc} (hk:∀e s r,K e s=some r→K' e s=some r) {r},ownR K l env st=some r→ownR K' l env st=some r:=fun {l}=>by
    induction l with
    |nil=>intro env st K K' hk r h;exact hk _ _ _ h
    |cons p l ihl =>
     obtain⟨t,e,es⟩:=p
     intro env st K K' hk r h
     unfold ownR at h ⊢
     split at h
     ·split at h<;>rename_i hw<;>(first|rw[if_pos hw]|rw[if_neg hw])<;>exact ihl hk h
     ·exact ihl hk h
   exact hO (fun e s r h=>evL_le (fun e s r h=>ih h) n (n+1) (by omega) h) h
  |frz l a =>
   rw[evC]at h ⊢
   have hO:∀{l:List Nat}{env:Env}{st:St}{K K':Env→St→Rc} (hk:∀e s r,K e s=some r→K' e s=some r) {r},frzR K l env st=some r→frzR K' l env st=some r:=fun {l}=>by
    induction l with
    |nil=>intro env st K K' hk r h;exact hk _ _ _ h
    |cons p l ihl =>
     intro env st K K' hk r h
     unfold frzR at h ⊢
     split at h
     ·split at h
      ·exact ihl hk h
      ·exact ihl hk h
     ·exact ihl hk h
   exact hO (fun e s r h=>ih h) h
end
variable {P:Program}{H:EvF}{c a b:Cd}{env:Env}{st:St}
theorem evD_sup {E:EvF}:Sup (fun n=>evC E n c env st) (evD E c env st):=Sup.lub (fun m r h=>evC_fuel m h)
theorem evF_mut:∀n,(evF P H n).raw=H.raw
 |0=>by simp only[evF]
 |n+1=>by simp only[evF]
theorem evD_sup' {E:Nat→EvF}{F:EvF}(hE:(∀m,(E m).raw=F.raw)∧∀k a s,Sup (fun m=>E m k a s) (F k a s)):Sup (fun m=>evD (E m) c env st) (evD F c env st) where
 mono m r h:=by
  obtain⟨n,hn⟩:=evD_sup.up r h
  exact evD_sup.le n r ((evC_sup hE n).mono m r hn)
 le m r h:=by
  obtain⟨n,hn⟩:=evD_sup.up r h
  exact evD_sup.le n r ((evC_sup hE n).le m r hn)
 up r h:=by
  obtain⟨n,hn⟩:=evD_sup.up r h
  obtain⟨m,hm⟩:=(evC_sup hE n).up r hn
  exact⟨m,evD_sup.le n r hm⟩
theorem endF_sup {F:Fx}{args:List V}{f:Nat→Env→St→Rc}{g:Env→St→Rc}(hf:∀e s,Sup (fun m=>f m e s) (g e s)):Sup (fun m=>endF F args st (f m)) (endF F args st g):=by
 unfold endF
 split
 ·split
  ·exact(((hf _ _).map (g:=rawE F.res) rfl).map (g:=shutR st) rfl)
  ·exact(((hf _ _).map (g:=rawE F.res) rfl).map (g:=openR st.nx) rfl)
 ·exact .const _
theorem evF_fuel:∀n k args st r,evF P H n k args st=some r→evF P H (n+1) k args st=some r:=by
 intro n
 induction n with
 |zero=>intro k args st r h;simp only[evF]at h;cases h
 |succ n ih =>
  intro k args st r h
  rw[evF]at h ⊢
  dsimp only at h ⊢
  cases e:H k args st with
  |some z=>rw[e]at h;exact h
  |none =>
   rw[e]at h
   dsimp only at h ⊢
   cases hF:compF P k with
   |none=>rw[hF]at h;cases h
   |some F =>
    rw[hF]at h
    dsimp only at h ⊢
    have hS:(∀m,(if m=0 then evF P H n else evF P H (n+1)).raw=(evF P H (n+1)).raw)∧∀k a s,Sup (fun m=>(if m=0 then evF P H n else evF P H (n+1)) k a s) (evF P H (n+1) k a s):=⟨fun m=>by split<;>simp only[evF_mut],fun k a s =>
     ⟨fun m r hr=>by
      rw[if_neg (by omega)]
      split at hr
      ·exact ih _ _ _ _ hr
      ·exact hr,fun m r hr=>by
      split at hr
      ·exact ih _ _ _ _ hr
      ·exact hr,fun r hr=>⟨1,hr⟩⟩⟩
    have:=(endF_sup (F:=F) (args:=args) (st:=st) fun e s=>evD_sup' (c:=F.c) (env:=e) (st:=s) hS).le 0 r (by simpa using h)
    exact this
theorem run_sup (k:FuncId)(args:List V)(st:St):Sup (fun n=>evF P H n k args st) (run P H k args st):=Sup.lub (fun m r h=>evF_fuel m _ _ _ _ h)
theorem run_H {k:FuncId}{args:List V}{r:VRes×St}(h:H k args st=some r):run P H k args st=some r :=
 (run_sup k args st).le 1 r (by simp only[evF,h])
theorem run_eq {k:FuncId}{args:List V}{F:Fx}(hH:H k args st=none)(hF:compF P k=some F):run P H k args st=endF F args st (runC P H F.c):=by
 have h1:Sup (fun n=>evF P H (n+1) k args st) (endF F args st (runC P H F.c)):=by
  have e:(fun n=>evF P H (n+1) k args st)=fun n=>endF F args st (evD (evF P H n) F.c):=by
   funext n;simp only[evF,hH,hF]
  rw[e]
  exact endF_sup fun e s=>evD_sup' ⟨fun m=>evF_mut m,fun k a s=>run_sup k a s⟩
 exact(run_sup k args st).tail.unique h1
theorem runC_tail (k:Rc)(h:Sup (fun n=>evC (run P H) (n+1) c env st) k):runC P H c env st=k:=evD_sup.tail.unique h
theorem runC_skip:runC P H .skip env st=some (.normal,env,st):=runC_tail _ (by simp only[evC];exact .const _)
theorem runC_exit {lv:List Nat}{id:Nat}:runC P H (.exit lv id) env st=some (.exit id,restr lv env,st):=runC_tail _ (by simp only[evC];exact .const _)
theorem runC_ret {lv:List Nat}:runC P H (.ret lv) env st=some (.ret,restr lv env,st):=runC_tail _ (by simp only[evC];exact .const _)
theorem runC_reg {l:List Ins}:runC P H (.reg l) env st=evOps (run P H) l env st:=runC_tail _ (by simp only[evC];exact .const _)
theorem runC_dreg {m:Nat}{l:List Ins}:runC P H (.dreg m l) env st=evQ (run P H) (fun _ env'=>evOps (run P H) (l.drop m) env' st) (l.take m) env st []:=runC_tail _ (by simp only[evC];exact .const _)
theorem runC_greg {fs:List (List Bool)}{l:List Ins}:runC P H (.greg fs l) env st=evG (run P H) l fs env st [] []:=runC_tail _ (by simp only[evC];exact .const _)
theorem runC_seq:runC P H (.seq a b) env st=seqR (runC P H b) (runC P H a env st):=runC_tail _ (by simp only[evC];exact seqR_sup' (fun _ _=>evD_sup) evD_sup)
theorem runC_join {lv:List Nat}:runC P H (.join lv a b) env st=seqR (runC P H b) (restR lv (runC P H a env st)):=runC_tail _ (by simp only[evC];exact seqR_sup' (fun _ _=>evD_sup) (evD_sup.map rfl))
theorem runC_cond {o:Opd}:runC P H (.cond o a b) env st=condR (runC P H a env st) (runC P H b env st) (o.get env):=runC_tail _ (by
 simp only[evC]
 cases o.get env<;>try exact .const _
 rename_i t
 cases t<;>simp only[condR]<;>simp only[Bool.false_eq_true,if_false,if_true]<;>exact evD_sup)
theorem runC_block {id:Nat}:runC P H (.block id a) env st=blockR id (runC P H a env st):=runC_tail _ (by simp only[evC];exact evD_sup.map rfl)
theorem runL_sup {lv:List Nat}{nx:Nat}:Sup (fun n=>evL (evC (run P H) n c) lv nx n env st) (runL P H lv nx c env st):=Sup.lub (fun m r h=>evL_le (fun _ _ _ h=>evC_fuel m h) m (m+1) (by omega) h)
theorem runC_frz {l:List Nat}:runC P H (.frz l a) env st=frzR (runC P H a) l env st:=runC_tail _ (by
 simp only[evC]
 exact frzR_sup fun e s=>evD_sup)
theorem runC_loop {lv:List Nat}{ow:List (Nat×Nat×Nat)}:runC P H (.loop lv ow a) env st=ownR (fun e s=>runL P H lv s.nx a (restr lv e) s) ow env st:=runC_tail _ (by
 simp only[evC]
 exact ownR_sup fun e s=>runL_sup)
theorem runL_eq {lv:List Nat}{nx:Nat}:runL P H lv nx c env st=seqR (fun e s=>runL P H lv nx c (restr lv e) (headS nx (restr lv e) s)) (cutR nx (runC P H c env st)):=by
 refine runL_sup.tail.unique ?_
 simp only[evL]
 refine seqR_sup' (fun e s=>?_) (evD_sup.tail.map rfl)
 exact⟨fun m r h=>evL_le (fun _ _ _ h=>evC_fuel (m+1) h) m (m+1) (by omega) h,fun m r h=>runL_sup.le (m+1) r (evL_le (fun _ _ _ h=>h) m (m+1) (by omega) h),fun r h=>by
  obtain⟨m,hm⟩:=runL_sup.up r h
  exact⟨m,evL_le (fun _ _ _ h=>evC_fuel m h) m m (Nat.le_refl _) hm⟩⟩
end Go.Sha
namespace Go.Sha
section
variable {P:Program}{H E:EvF}{env:Env}{st:St}{K p:V→St→Rc}{k:V→Rc}
class Hld (α:Type) where
 get:α
def kh {α:Type}[h:Hld α]:α:=h.get
theorem kh_1 {α β:Type}{f:α→β}{a:α}:@kh (α→β) ⟨f⟩ a=f a:=idq rfl
theorem kh_2 {α β γ:Type}{f:α→β→γ}{a:α}{b:β}:@kh (α→β→γ) ⟨f⟩ a b=f a b:=idq rfl
attribute [push_cast] kh_1 kh_2
def bindE (st:St)(k:V→St→Rc):Option V→Rc
 |some v=>k v st
 |none=>none
theorem bindE_of {o:Option V}:bindR K (o.map fun v=>(v,st))=bindE st K o:=by cases o<;>rfl
def boxV (st:St)(x:V):Option (V×St):=if partOk st x=true then some (.ptr st.nx 0,⟨st.nx+1,(st.nx,x.cells)::st.mem,st.arr,st.x⟩) else none
def cvsbV (e:TypeId)(v:V)(st:St):Option (V×St):=match v with
 | .str s=>if s.length≤maxLen then some (newArr st e 1 (s.map fun b=>.int .u8 b.toNat) true true) else none
 |_=>none
def bsliceV (e es:Nat)(xs:List V)(st:St):Option (V×St):=match mapO (snapA st) xs with
 |some ys=>if ys.all (fun y=>partOk st y&&y.cells.length == es)=true then some (newArr st e es ys false false) else none
 |none=>none
def mksliceV (e es bytes:Nat)(b:Bool)(z:List V)(l c:V)(st:St):Option (V×St):=match natV l,natV c,elemZ b z with
 |some l,some c,some y=>if l≤c∧roomV c bytes=true∧y.cells.length=es then some (newArr st e es (List.replicate l y) true false) else none
 |_,_,_=>none
theorem iE_gen (g:Gen)(xs:List Opd):insE E env st K (.gen g xs)=bindE st K (genV g (xs.map (·.get env))):=by simp only[insE];exact bindE_of
theorem iE_mv (x:Opd):insE E env st K (.mv x)=K (x.get env) st:=idq rfl
theorem iQ_mv (x:Opd):insQ E env st k (.mv x)=k (x.get env):=idq rfl
theorem iE_pick (c a b:Opd):insE E env st K (.pick c a b)=bindE st K (pickV (c.get env) (a.get env) (b.get env)):=by simp only[insE];exact bindE_of
theorem iQ_pick (c a b:Opd):insQ E env st k (.pick c a b)=bindQ k (pickV (c.get env) (a.get env) (b.get env)):=idq rfl
theorem iE_build (z:List V)(ps:List (Nat×Nat×Opd)):insE E env st K (.build z ps)=bindE st K ((fillV st z (ps.map fun p=>(p.1,p.2.1,p.2.2.get env))).map .agg):=by simp only[insE];exact bindE_of
theorem iQ_build (z:List V)(ps:List (Nat×Nat×Opd)):insQ E env st k (.build z ps)=bindQ k ((fillV st z (ps.map fun p=>(p.1,p.2.1,p.2.2.get env))).map .agg):=idq rfl
theorem iE_load (n:Option Nat)(x:Opd):insE E env st K (.load n x)=bindE st K (loadV st n (x.get env)):=by simp only[insE];exact bindE_of
theorem iQ_load (n:Option Nat)(x:Opd):insQ E env st k (.load n x)=bindQ k (loadV st n (x.get env)):=idq rfl
theorem iE_nilc (x:Opd):insE E env st K (.nilc x)=bindE st K (nilcV (x.get env)):=by simp only[insE];exact bindE_of
theorem iE_bin (o:BinOp)(x y:Opd):insE E env st K (.bin o x y)=bindE st K (binV o (x.get env) (y.get env)):=by simp only[insE];exact bindE_of
theorem iQ_bin (o:BinOp)(x y:Opd):insQ E env st k (.bin o x y)=bindQ k (binV o (x.get env) (y.get env)):=idq rfl
theorem iE_un (o:UnOp)(x:Opd):insE E env st K (.un o x)=bindE st K (unV o (x.get env)):=by simp only[insE];exact bindE_of
theorem iQ_un (o:UnOp)(x:Opd):insQ E env st k (.un o x)=bindQ k (unV o (x.get env)):=idq rfl
theorem iE_fadr (n:Nat)(x:Opd):insE E env st K (.fadr n x)=bindE st K (fadrV st n (x.get env)):=by simp only[insE];exact bindE_of
theorem iQ_fadr (n:Nat)(x:Opd):insQ E env st k (.fadr n x)=bindQ k (fadrV st n (x.get env)):=idq rfl
theorem iE_fld (n:Option Nat)(o:Nat)(x:Opd):insE E env st K (.fld n o x)=bindE st K (fldV n o (x.get env)):=by simp only[insE];exact bindE_of
theorem iE_iadr (es:Nat)(x i:Opd):insE E env st K (.iadr es x i)=bindE st K (iadrV st es (x.get env) (i.get env)):=by simp only[insE];exact bindE_of
theorem iQ_iadr (es:Nat)(x i:Opd):insQ E env st k (.iadr es x i)=bindQ k (iadrV st es (x.get env) (i.get env)):=idq rfl
theorem iE_iadra (len es:Nat)(x i:Opd):insE E env st K (.iadra len es x i)=bindE st K (iadraV len es (x.get env) (i.get env)):=by simp only[insE];exact bindE_of
theorem iE_ichr (x i:Opd):insE E env st K (.ichr x i)=bindE st K (ichrV (x.get env) (i.get env)):=by simp only[insE];exact bindE_of
theorem iE_slices (x:Opd)(lo hi:Option Opd):insE E env st K (.slices x lo hi)=bindE st K (sliceStr (x.get env) (lo.map (·.get env)) (hi.map (·.get env))):=by simp only[insE];exact bindE_of
theorem iQ_slices (x:Opd)(lo hi:Option Opd):insQ E env st k (.slices x lo hi)=bindQ k (sliceStr (x.get env) (lo.map (·.get env)) (hi.map (·.get env))):=idq rfl
theorem iE_slice (es:Nat)(x:Opd)(lo hi mx:Option Opd):insE E env st K (.slice es x lo hi mx)=bindE st K (sliceV st es (x.get env) (lo.map (·.get env)) (hi.map (·.get env)) (mx.map (·.get env))):=by simp only[insE];exact bindE_of
theorem iQ_slice (es:Nat)(x:Opd)(lo hi mx:Option Opd):insQ E env st k (.slice es x lo hi mx)=bindQ k (sliceV st es (x.get env) (lo.map (·.get env)) (hi.map (·.get env)) (mx.map (·.get env))):=idq rfl
theorem iE_ext (i:Nat)(x:Opd):insE E env st K (.ext i x)=bindE st K (extV i (x.get env)):=by simp only[insE];exact bindE_of
theorem iE_lens (x:Opd):insE E env st K (.lens x)=bindE st K (lensV (x.get env)):=by simp only[insE];exact bindE_of
theorem iQ_lens (x:Opd):insQ E env st k (.lens x)=bindQ k (lensV (x.get env)):=idq rfl
theorem iE_len (x:Opd):insE E env st K (.len x)=bindE st K (lenV st (x.get env)):=by simp only[insE];exact bindE_of
theorem iQ_len (x:Opd):insQ E env st k (.len x)=bindQ k (lenV st (x.get env)):=idq rfl
theorem iE_mkfn (f:Fn)(a b:List Opd):insE E env st K (.mkfn f a b)=K (.fn f (a.map (·.get env)) (b.map (·.get env))) st:=idq rfl
theorem iE_cvi (q:IntKind)(x:Opd):insE E env st K (.cvi q x)=bindE st K (cviV q (x.get env)):=by simp only[insE];exact bindE_of
theorem iE_cvis (x:Opd):insE E env st K (.cvis x)=bindE st K (cvisV (x.get env)):=by simp only[insE];exact bindE_of
theorem iE_cvbs (x:Opd):insE E env st K (.cvbs x)=bindE st K (cvbsV st (x.get env)):=by simp only[insE];exact bindE_of
theorem iE_act (g:ActK)(xs:List Opd):insE E env st K (.act g xs)=bindR K (actV g (xs.map (·.get env)) st):=idq rfl
theorem iE_alloc (T:TypeId)(z:List V):insE E env st K (.alloc T z)=K (.ptr st.nx 0) ⟨st.nx+1,(st.nx,z)::st.mem,st.arr,st.x⟩:=idq rfl
theorem iE_box (T:TypeId)(x:Opd):insE E env st K (.box T x)=bindR K (boxV st (x.get env)):=idq rfl
theorem iE_store (n:Nat)(a x:Opd):insE E env st K (.store n a x)=bindR K ((storeV st n (a.get env) (x.get env)).map fun s=>(.und,s)):=idq rfl
theorem iE_append (e es b:Nat)(s x:Opd):insE E env st K (.append e es b s x)=bindR K (appendV st e es b (s.get env) (x.get env)):=idq rfl
theorem iE_bslice (e es:Nat)(xs:List Opd):insE E env st K (.bslice e es xs)=bindR K (bsliceV e es (xs.map (·.get env)) st):=idq rfl
theorem iE_mkslice (e es b:Nat)(g:Bool)(z:List V)(l c:Opd):insE E env st K (.mkslice e es b g z l c)=bindR K (mksliceV e es b g z (l.get env) (c.get env) st):=idq rfl
theorem iE_cvsb (e:TypeId)(x:Opd):insE E env st K (.cvsb e x)=bindR K (cvsbV e (x.get env) st):=idq rfl
attribute [push_cast] iE_gen iE_mv iQ_mv iE_pick iQ_pick iE_build iQ_build iE_load iQ_load iE_nilc iE_bin iQ_bin iE_un iQ_un iE_fadr iQ_fadr iE_fld iE_iadr iQ_iadr iE_iadra iE_ichr iE_slices iQ_slices iE_slice iQ_slice iE_ext iE_lens iQ_lens iE_len iQ_len iE_mkfn iE_cvi iE_cvis iE_cvbs iE_act iE_alloc iE_box iE_store iE_append iE_bslice iE_mkslice iE_cvsb
theorem seqR_n {f:Env→St→Rc}{e:Env}{s:St}:seqR f (some (.normal,e,s))=f e s:=idq rfl
theorem seqR_x {f:Env→St→Rc}{i:Nat}{e:Env}{s:St}:seqR f (some (.exit i,e,s))=some (.exit i,e,s):=idq rfl
theorem seqR_r {f:Env→St→Rc}{e:Env}{s:St}:seqR f (some (.ret,e,s))=some (.ret,e,s):=idq rfl
theorem seqR_i {f:Env→St→Rc}{c:Prop}[Decidable c]{a b:Rc}:seqR f (if c then a else b)=if c then seqR f a else seqR f b:=by split<;>rfl
theorem cutR_n {i:Nat}{e:Env}{s:St}:cutR i (some (.normal,e,s))=some (.normal,e,s):=idq rfl
theorem cutR_x {i j:Nat}{e:Env}{s:St}:cutR i (some (.exit j,e,s))=some (.exit j,e,headS i e s):=idq rfl
theorem cutR_r {i:Nat}{e:Env}{s:St}:cutR i (some (.ret,e,s))=some (.ret,e,headS i e s):=idq rfl
theorem cutR_i {i:Nat}{c:Prop}[Decidable c]{a b:Rc}:cutR i (if c then a else b)=if c then cutR i a else cutR i b:=by split<;>rfl
theorem blockR_n {i:Nat}{e:Env}{s:St}:blockR i (some (.normal,e,s))=some (.normal,e,s):=idq rfl
theorem blockR_x {i j:Nat}{e:Env}{s:St}:blockR i (some (.exit j,e,s))=if j=i then some (.normal,e,s) else some (.exit j,e,s):=idq rfl
theorem blockR_r {i:Nat}{e:Env}{s:St}:blockR i (some (.ret,e,s))=some (.ret,e,s):=idq rfl
theorem blockR_i {i:Nat}{c:Prop}[Decidable c]{a b:Rc}:blockR i (if c then a else b)=if c then blockR i a else blockR i b:=by split<;>rfl
theorem condR_b {a b:Rc}{t:Bool}:condR a b (.bool t)=if t=true then a else b:=idq rfl
section
variable {A B:Env→Rc}{j:Nat}{t:Bool}
theorem gd_t:gd A B j true env (some (.bool t))=if t=true then A ((j,.bool true)::env) else B ((j,.bool false)::env):=idq rfl
theorem gd_f:gd A B j false env (some (.bool t))=if t=true then B ((j,.bool true)::env) else A ((j,.bool false)::env):=idq rfl
theorem gd_u {b:Bool}:gd A B j b env (some (.tup []))=B env:=idq rfl
@[congr] theorem gd_c {b:Bool}{o o':Option V}(h:o=o'):gd A B j b env o=gd A B j b env o':=by rw[h]
end
theorem bindR_s {v:V}{s:St}:bindR K (some (v,s))=K v s:=idq rfl
theorem bindE_s {v:V}:bindE st K (some v)=K v st:=idq rfl
theorem bindQ_s {v:V}:bindQ k (some v)=k v:=idq rfl
theorem callR_s {v:V}{s:St}:callR K p (some (.ret v,s))=K v s:=idq rfl
theorem quietR_s {v:V}:quietR st k (some (.ret v,st))=k v:=if_pos (St.eqv.refl st)
theorem iE_call (f:Opd)(args:List Opd):insE E env st K (.call f args)=callR K (@kh _ ⟨fun v s=>some (.pan v,env,s)⟩) (callE E st (args.map (·.get env)) (f.get env)):=idq rfl
theorem iQ_call (f:Opd)(args:List Opd):insQ E env st k (.call f args)=quietR st k (callE E st (args.map (·.get env)) (f.get env)):=idq rfl
theorem callE_f {args a b:List V}{f:FuncId}:callE E st args (.fn (.func f) a b)=E f (snapQ (memL f E.raw) st (a++args++b)) st:=idq rfl
theorem memL_n {k:FuncId}:memL k []=false:=idq rfl
theorem memL_c {k x:FuncId}{l:List FuncId}:memL k (x::l)=if x=k then true else memL k l:=idq rfl
theorem snapQ_t {l:List V}:snapQ true st l=l:=idq rfl
theorem snapQ_f {l:List V}:snapQ false st l=snapL st l:=idq rfl
theorem run_mut:(run P H).raw=H.raw:=idq rfl
attribute [push_cast] memL_n memL_c snapQ_t snapQ_f run_mut
theorem evOps_n:evOps E [] env st=some (.normal,env,st):=idq rfl
theorem evOps_s {d:Nat}{op:SOp}{r:List Ins}:evOps E (⟨some d,op,none⟩::r) env st=insE E env st (@kh _ ⟨fun v s=>evOps E r ((d,v)::env) s⟩) op:=idq rfl
theorem evOps_d {op:SOp}{r:List Ins}:evOps E (⟨none,op,none⟩::r) env st=insE E env st (@kh _ ⟨fun v s=>evOps E r env s⟩) op:=idq rfl
theorem evOps_g {d j:Nat}{b:Bool}{op:SOp}{r:List Ins}:evOps E (⟨some d,op,some (j,b)⟩::r) env st=gd (@kh _ ⟨fun env=>insE E env st (@kh _ ⟨fun v s=>evOps E r ((d,v)::env) s⟩) op⟩) (@kh _ ⟨fun env=>evOps E r ((d,.tup [])::env) st⟩) j b env (look env j):=idq rfl
theorem evOne_s {d:Nat}{op:SOp}{f:Env→St→Rc}:evOne E ⟨some d,op,none⟩ env st f=insE E env st (@kh _ ⟨fun v s=>f ((d,v)::env) s⟩) op:=idq rfl
theorem evOne_d {op:SOp}{f:Env→St→Rc}:evOne E ⟨none,op,none⟩ env st f=insE E env st (@kh _ ⟨fun v s=>f env s⟩) op:=idq rfl
theorem evQ1_s {d:Nat}{op:SOp}{f:Env→Rc}:evQ1 E ⟨some d,op,none⟩ env st f=insQ E env st (@kh _ ⟨fun v=>f ((d,v)::env)⟩) op:=idq rfl
section
variable {q:List V→Env→Rc}{acc:List V}
variable {l:List Ins}
theorem evQ_n:evQ E q [] env st acc=q acc.reverse env:=idq rfl
theorem evQ_s {d:Nat}{op:SOp}{r:List Ins}:evQ E q (⟨some d,op,none⟩::r) env st acc=insQ E env st (@kh _ ⟨fun v=>evQ E q r ((d,v)::env) st (v::acc)⟩) op:=idq rfl
theorem evQ_g {d j:Nat}{b:Bool}{op:SOp}{r:List Ins}:evQ E q (⟨some d,op,some (j,b)⟩::r) env st acc=gd (@kh _ ⟨fun env=>insQ E env st (@kh _ ⟨fun v=>evQ E q r ((d,v)::env) st (v::acc)⟩) op⟩) (@kh _ ⟨fun env=>evQ E q r ((d,.tup [])::env) st (.tup []::acc)⟩) j b env (look env j):=idq rfl
end
@[congr] theorem seqR_c {f:Env→St→Rc}{a b:Rc}(h:a=b):seqR f a=seqR f b:=by rw[h]
@[congr] theorem condR_c {a b:Rc}{v u:V}(h:v=u):condR a b v=condR a b u:=by rw[h]
@[congr] theorem bindR_c {v u:Option (V×St)}(h:v=u):bindR K v=bindR K u:=by rw[h]
@[congr] theorem bindE_c {v u:Option V}(h:v=u):bindE st K v=bindE st K u:=by rw[h]
@[congr] theorem bindQ_c {v u:Option V}(h:v=u):bindQ k v=bindQ k u:=by rw[h]
@[congr] theorem callR_c {v u:Rt}(h:v=u):callR K p v=callR K p u:=by rw[h]
@[congr] theorem quietR_c {st':St}{v u:Rt}(h':st=st')(h:v=u):quietR st k v=quietR st' k u:=by rw[h,h']
@[congr] theorem callE_c {args args':List V}{v u:V}(h:args=args')(h':v=u):callE E st args v=callE E st args' u:=by rw[h,h']
theorem normR_n {f:Env→St→Rc}{e:Env}{s:St}:normR f (some (.normal,e,s))=f e s:=idq rfl
theorem evG_n {fs:List (List Bool)}{h:List Ran}{hs:List St}:evG E [] fs env st h hs=some (.normal,env,st):=idq rfl
noncomputable def evGs (E:EvF)(i:Ins)(r:List Ins)(m:List Bool)(fs:List (List Bool))(env:Env)(st:St)(h:List Ran)(hs:List St):Bool→Rc
 |true=>evQ1 E i env st (fun env'=>lateE E i env (valD i.dst env') (evG E r fs env' st ((i,env,valD i.dst env')::h) hs) (hs.take m.length))
 |false=>normR (fun env' st'=>reE E st' (evG E r fs env' st' ((i,env,valD i.dst env')::h) (st::hs)) (picks m h)) (evOne E i env st (fun e s=>some (.normal,e,s)))
theorem evG_s {i:Ins}{r:List Ins}{m:List Bool}{fs:List (List Bool)}{h:List Ran}{hs:List St}:evG E (i::r) (m::fs) env st h hs=evGs E i r m fs env st h hs i.op.quiet:=by
 unfold evG evGs;cases i.op.quiet<;>simp
theorem evGs_t {i:Ins}{r:List Ins}{m:List Bool}{fs:List (List Bool)}{h:List Ran}{hs:List St}:evGs E i r m fs env st h hs true=evQ1 E i env st (@kh _ ⟨fun env'=>lateE E i env (valD i.dst env') (evG E r fs env' st ((i,env,valD i.dst env')::h) hs) (hs.take m.length)⟩):=idq rfl
theorem evGs_f {i:Ins}{r:List Ins}{m:List Bool}{fs:List (List Bool)}{h:List Ran}{hs:List St}:evGs E i r m fs env st h hs false=normR (@kh _ ⟨fun env' st'=>reE E st' (evG E r fs env' st' ((i,env,valD i.dst env')::h) (st::hs)) (picks m h)⟩) (evOne E i env st (@kh _ ⟨fun e s=>some (.normal,e,s)⟩)):=idq rfl
@[congr] theorem normR_c {f:Env→St→Rc}{a b:Rc}(h:a=b):normR f a=normR f b:=by rw[h]
theorem reE_n {f:Rc}:reE E st f []=f:=idq rfl
theorem reE_s {f:Rc}{i:Ins}{e:Env}{v:V}{r:List Ran}:reE E st f ((i,e,v)::r)=evQ1 E i e st (@kh _ ⟨fun env'=>sameE i.dst v env' (reE E st f r)⟩):=idq rfl
theorem lateE_n {f:Rc}{i:Ins}{v:V}:lateE E i env v f []=f:=idq rfl
theorem lateE_s {f:Rc}{i:Ins}{v:V}{s:St}{r:List St}:lateE E i env v f (s::r)=evQ1 E i env s (@kh _ ⟨fun env'=>sameE i.dst v env' (lateE E i env v f r)⟩):=idq rfl
@[congr] theorem lateE_c {f:Rc}{i:Ins}{v:V}{l l':List St}(h:l=l'):lateE E i env v f l=lateE E i env v f l':=by rw[h]
theorem sameE_s {d:Nat}{v:V}{f:Rc}:sameE (some d) v env f=sameO (look env d) v f:=idq rfl
theorem sameO_s {v:V}{f:Rc}:sameO (some v) v f=f:=by simp[sameO]
@[congr] theorem sameO_c {o o':Option V}{v:V}{f:Rc}(h:o=o'):sameO o v f=sameO o' v f:=by rw[h]
open Classical in
noncomputable def dn {β:Type}(c:Prop)(r:Option β):Option β:=if c then r else none
theorem dn_eq {β:Type}{c:Prop}{r x:Option β}(h:c)(e:r=x):dn c r=x:=by unfold dn;rw[if_pos h,e]
theorem dn_t {β:Type}{r:Option β}:dn True r=r:=dn_eq trivial rfl
theorem dn_dn {β:Type}{c d:Prop}{r:Option β}:dn c (dn d r)=dn (c∧d) r:=by unfold dn;by_cases h:c<;>by_cases h':d<;>simp[h,h']
theorem dn_strict {β γ:Type}{f:Option β→Option γ}(h:f none=none){c:Prop}{r:Option β}:f (dn c r)=dn c (f r):=by unfold dn;split<;>first|rfl|exact h
theorem if_n {β:Type}{c:Prop}[Decidable c]{r:Option β}:(if c then r else none)=dn c r:=by unfold dn;by_cases h:c<;>simp[h]
theorem if_m {β:Type}{c:Prop}[Decidable c]{r:Option β}:(if c then none else r)=dn (¬c) r:=by unfold dn;by_cases h:c<;>simp[h]
theorem if_d1 {β:Type}{c p:Prop}[Decidable c]{r q:Option β}:(if c then dn p r else q)=dn (c→p) (if c then r else q):=by unfold dn;by_cases h:c<;>by_cases h':p<;>simp[h,h']
theorem if_d2 {β:Type}{c p:Prop}[Decidable c]{r q:Option β}:(if c then r else dn p q)=dn (¬c→p) (if c then r else q):=by unfold dn;by_cases h:c<;>by_cases h':p<;>simp[h,h']
theorem seqR_d {f:Env→St→Rc}{c:Prop}{r:Rc}:seqR f (dn c r)=dn c (seqR f r):=dn_strict rfl
theorem cutR_d {i:Nat}{c:Prop}{r:Rc}:cutR i (dn c r)=dn c (cutR i r):=dn_strict rfl
theorem blockR_d {i:Nat}{c:Prop}{r:Rc}:blockR i (dn c r)=dn c (blockR i r):=dn_strict rfl
theorem bindR_d {c:Prop}{r:Option (V×St)}:bindR K (dn c r)=dn c (bindR K r):=dn_strict rfl
theorem bindE_d {c:Prop}{r:Option V}:bindE st K (dn c r)=dn c (bindE st K r):=dn_strict rfl
theorem bindQ_d {c:Prop}{r:Option V}:bindQ k (dn c r)=dn c (bindQ k r):=dn_strict rfl
theorem callR_d {c:Prop}{r:Rt}:callR K p (dn c r)=dn c (callR K p r):=dn_strict rfl
theorem normR_d {f:Env→St→Rc}{c:Prop}{r:Rc}:normR f (dn c r)=dn c (normR f r):=dn_strict rfl
theorem rawE_d {res:List Res}{c:Prop}{r:Rc}:rawE res (dn c r)=dn c (rawE res r):=dn_strict rfl
theorem shutR_d {c:Prop}{r:Rt}:shutR st (dn c r)=dn c (shutR st r):=dn_strict rfl
theorem openR_d {n:Nat}{c:Prop}{r:Rt}:openR n (dn c r)=dn c (openR n r):=dn_strict rfl
theorem omap_d {β γ:Type}{f:β→γ}{c:Prop}{r:Option β}:(dn c r).map f=dn c (r.map f):=dn_strict rfl
@[congr] theorem dn_c {β:Type}{c c':Prop}{r r':Option β}(h:c=c')(h':r=r'):dn c r=dn c' r':=by rw[h,h']
def jn (e:Env)(s:St):Rc:=some (.normal,e,s)
theorem restR_n {lv:List Nat}{e:Env}{s:St}:restR lv (some (.normal,e,s))=jn (restr lv e) s:=idq rfl
theorem restR_x {lv:List Nat}{i:Nat}{e:Env}{s:St}:restR lv (some (.exit i,e,s))=some (.exit i,e,s):=idq rfl
theorem restR_r {lv:List Nat}{e:Env}{s:St}:restR lv (some (.ret,e,s))=some (.ret,e,s):=idq rfl
theorem restR_i {lv:List Nat}{c:Prop}[Decidable c]{a b:Rc}:restR lv (if c then a else b)=if c then restR lv a else restR lv b:=by split<;>rfl
theorem restR_d {lv:List Nat}{c:Prop}{r:Rc}:restR lv (dn c r)=dn c (restR lv r):=dn_strict rfl
theorem seqR_j {f:Env→St→Rc}{e:Env}{s:St}:seqR f (jn e s)=f e s:=idq rfl
theorem mgJ {c:Prop}[Decidable c]{e e':Env}{s:St}:(if c then jn e s else jn e' s)=jn (if c then e else e') s:=by split<;>rfl
theorem mgJ4 {c d:Prop}[Decidable c][Decidable d]{e e':Env}{s:St}{q:Rc}:(if c then if d then q else jn e s else jn e' s)=if c∧d then q else jn (if c then e else e') s:=by by_cases h:c<;>by_cases h':d<;>simp[h,h']
theorem mgR {c:Prop}[Decidable c]{e e':Env}{s:St}:(if c then some (VX.ret,e,s) else some (VX.ret,e',s))=some (VX.ret,(if c then e else e'),s):=by split<;>rfl
theorem mgT {c:Prop}[Decidable c]{a b:V}{s:St}:(if c then some (VRes.ret a,s) else some (VRes.ret b,s))=some (VRes.ret (if c then a else b),s):=by split<;>rfl
theorem mgE {c:Prop}[Decidable c]{i:Nat}{a b:V}{l m:Env}:(if c then(i,a)::l else(i,b)::m)=(i,if c then a else b)::(if c then l else m):=by split<;>rfl
theorem mgL {c:Prop}[Decidable c]{a b:V}{l m:List V}:(if c then a::l else b::m)=(if c then a else b)::(if c then l else m):=by split<;>rfl
theorem mg_bool {c:Prop}[Decidable c]{a b:Bool}:(if c then V.bool a else V.bool b)=V.bool (if c then a else b):=by split<;>rfl
theorem mg_int {c:Prop}[Decidable c]{q:IntKind}{a b:Int}:(if c then V.int q a else V.int q b)=V.int q (if c then a else b):=by split<;>rfl
theorem mg_str {c:Prop}[Decidable c]{a b:List UInt8}:(if c then V.str a else V.str b)=V.str (if c then a else b):=by split<;>rfl
theorem mg_sl {c:Prop}[Decidable c]{a b:List V}:(if c then V.sl a else V.sl b)=V.sl (if c then a else b):=by split<;>rfl
theorem if_and {c:Prop}[Decidable c]{x:Bool}:(if c then x else false)=(decide c&&x):=by by_cases h:c<;>simp[h]
theorem if_or {c:Prop}[Decidable c]{x:Bool}:(if c then true else x)=(decide c||x):=by by_cases h:c<;>simp[h]
theorem if_nand {c:Prop}[Decidable c]{x:Bool}:(if c then false else x)=(!decide c&&x):=by by_cases h:c<;>simp[h]
section
variable {f:Env→St→Rc}
theorem ownR_n:ownR f [] env st=f env st:=idq rfl
def ownB (f:Env→St→Rc)(t e es:Nat)(r:List (Nat×Nat×Nat))(env:Env)(st:St):Option V→Rc
 |some .nils=>if 4096≤es then ownR f r ((t,.osl st.nx 0)::env) ⟨st.nx+1,st.mem,(st.nx,⟨e,es-4096,[],true,false⟩)::st.arr,st.x⟩
  else ownR f r ((t,.osl st.nx 0)::env) ⟨st.nx+1,st.mem,(st.nx,⟨e,es,[],false,false⟩)::st.arr,st.x⟩
 |_=>ownR f r env st
theorem ownR_s {t e es:Nat}{r:List (Nat×Nat×Nat)}:ownR f ((t,e,es)::r) env st=ownB f t e es r env st (look env t):=by unfold ownR ownB;rfl
theorem ownB_n {t e es:Nat}{r:List (Nat×Nat×Nat)}:ownB f t e es r env st (some .nils)=if 4096≤es then ownR f r ((t,.osl st.nx 0)::env) ⟨st.nx+1,st.mem,(st.nx,⟨e,es-4096,[],true,false⟩)::st.arr,st.x⟩ else ownR f r ((t,.osl st.nx 0)::env) ⟨st.nx+1,st.mem,(st.nx,⟨e,es,[],false,false⟩)::st.arr,st.x⟩:=idq rfl
theorem ownB_o {t e es i n:Nat}{r:List (Nat×Nat×Nat)}:ownB f t e es r env st (some (.osl i n))=ownR f r env st:=idq rfl
@[congr] theorem ownB_c {t e es:Nat}{r:List (Nat×Nat×Nat)}{o o':Option V}(h:o=o'):ownB f t e es r env st o=ownB f t e es r env st o':=by rw[h]
end
theorem restr_n:restr [] env=[]:=idq rfl
theorem restr_s {x:Nat}{l:List Nat}:restr (x::l) env=(x,(look env x).getD .und)::restr l env:=idq rfl
@[congr] theorem runL_c {lv:List Nat}{nx:Nat}{c:Cd}{env':Env}{st':St}(h:env=env')(h':st=st'):runL P H lv nx c env st=runL P H lv nx c env' st':=by rw[h,h']
theorem rawE_n {res:List Res}:rawE res (some (.normal,env,st))=rawO st (resV env st res):=idq rfl
theorem rawE_r {res:List Res}:rawE res (some (.ret,env,st))=rawO st (resV env st res):=idq rfl
theorem rawE_i {res:List Res}{c:Prop}[Decidable c]{a b:Rc}:rawE res (if c then a else b)=if c then rawE res a else rawE res b:=by split<;>rfl
theorem rawO_s {vs:List V}:rawO st (some vs)=some (.ret (resOne vs),st):=idq rfl
theorem resOne_1 {v:V}:resOne [v]=v:=idq rfl
theorem resOne_0:resOne []=.tup []:=idq rfl
theorem resOne_2 {u v:V}{r:List V}:resOne (u::v::r)=.tup (u::v::r):=idq rfl
def conV (v:V):Option (List V)→Option (List V)
 |some l=>some (v::l)
 |none=>none
theorem conV_s {v:V}{l:List V}:conV v (some l)=some (v::l):=idq rfl
def resB' (env:Env)(st:St)(r:List Res):Option V→Option (List V)
 |some v=>conV v (resV env st r)
 |none=>none
theorem resB_s {r:List Res}{v:V}:resB' env st r (some v)=conV v (resV env st r):=idq rfl
theorem resV_n:resV env st []=some []:=idq rfl
theorem resV_t {t:Nat}{r:List Res}:resV env st (.tmp t::r)=resB' env st r (look env t):=by
 simp only[resV];cases look env t<;>simp only[resB']<;>cases resV env st r<;>rfl
theorem resV_c {t:Nat}{n:Option Nat}{r:List Res}:resV env st (.cell t n::r)=resB' env st r (loadV st n ((look env t).getD .und)):=by
 simp only[resV];cases loadV st n ((look env t).getD .und)<;>simp only[resB']<;>cases resV env st r<;>rfl
theorem shutR_s {s:St}{v:V}:shutR st (some (.ret v,s))=guardT (some (.ret (shutV s v),st)) ((shutV s v).bd 0):=idq rfl
theorem shutR_i {c:Prop}[Decidable c]{a b:Rt}:shutR st (if c then a else b)=if c then shutR st a else shutR st b:=by split<;>rfl
theorem guardT_t {a:Rt}:guardT a true=a:=idq rfl
theorem openR_s {n:Nat}{s:St}{v:V}:openR n (some (.ret v,s))=some (.ret ((snapV s v).getD v),headS n [(0,(snapV s v).getD v)] s):=idq rfl
@[congr] theorem guardT_c {x:Rt}{a b:Bool}(h:a=b):guardT x a=guardT x b:=by rw[h]
theorem argEnv_s {i:Nat}{v:V}{l:List V}:argEnv i (v::l)=(i,v)::argEnv (i+1) l:=idq rfl
theorem argEnv_n {i:Nat}:argEnv i []=[]:=idq rfl
section
variable {g:List (Nat×Obj)}
theorem stG_eq:stG g=⟨0,[],[],⟨[],g,[]⟩⟩:=idq rfl
end
theorem runL_of {lv:List Nat}{nx:Nat}{c c':Cd}(h:c=c'):runL P H lv nx c env st=seqR (@kh _ ⟨fun e s=>runL P H lv nx c (restr lv e) (headS nx (restr lv e) s)⟩) (cutR nx (runC P H c' env st)):=by rw[←h];exact runL_eq
theorem drop_ind {α:Type}{l:List α}{M:List α→Nat→Prop}(h0:∀j,l.length≤j→M [] j)(h1:∀x r j,j<l.length→(∀d,l.getD j d=x)→l.drop j=x::r→M r (j+1)→M (x::r) j):∀r j,l.drop j=r→M r j
 |[],j,h=>h0 j (by simpa using h)
 |x::r,j,h=>by
  have hlt:j<l.length:=by
   rcases Nat.lt_or_ge j l.length with hl|hl
   ·exact hl
   ·rw[List.drop_eq_nil_of_le hl]at h;cases h
  have hx:=List.drop_eq_getElem_cons hlt
  rw[hx]at h
  cases h
  exact h1 _ _ j hlt (fun d=>by rw[List.getD_eq_getElem?_getD,List.getElem?_eq_getElem hlt];rfl) hx (drop_ind h0 h1 _ _ rfl)
theorem run_shut {f:FuncId}{args:List V}{N:Nat}{res:List Res}{c:Cd}(hF:compF P f=some ⟨N,res,c⟩)(hH:H f args st=none)(hl:Nat.ble args.length N=true)(hb:V.bdL 0 args=true) :
  run P H f args st=shutR st (rawE res (runC P H c (argEnv 0 args) (stG st.x.gl))):=by
 rw[run_eq hH hF];unfold endF;rw[if_pos (Nat.le_of_ble_eq_true hl),if_pos hb]
theorem run_open {f:FuncId}{args:List V}{N:Nat}{res:List Res}{c:Cd}(hF:compF P f=some ⟨N,res,c⟩)(hH:H f args st=none)(hl:Nat.ble args.length N=true)(hb:V.bdL 0 args=false) :
  run P H f args st=openR st.nx (rawE res (runC P H c (argEnv 0 args) st)):=by
 rw[run_eq hH hF];unfold endF;rw[if_pos (Nat.le_of_ble_eq_true hl),if_neg (by rw[hb];simp)]
end
variable {P:Program}{H:EvF}{env:Env}{st:St}{a b:Cd}
theorem runC_dreg' {m:Nat}{l:List Ins}:runC P H (.dreg m l) env st=evQ (run P H) (@kh _ ⟨fun _ env'=>evOps (run P H) (l.drop m) env' st⟩) (l.take m) env st []:=runC_dreg
theorem runC_seq':runC P H (.seq a b) env st=seqR (@kh _ ⟨runC P H b⟩) (runC P H a env st):=runC_seq
theorem runC_join' {lv:List Nat}:runC P H (.join lv a b) env st=seqR (@kh _ ⟨runC P H b⟩) (restR lv (runC P H a env st)):=runC_join
theorem runC_frz' {l:List Nat}:runC P H (.frz l a) env st=frzR (@kh _ ⟨runC P H a⟩) l env st:=runC_frz
def frzB (k:Env→St→Rc)(t:Nat)(r:List Nat)(env:Env)(st:St):Option V→Rc
 |some (.ptr id 0)=>match look st.mem id with
  |some cs=>frzR k r ((t,.ep (.agg cs) 0)::env) ⟨st.nx,dropM id st.mem,st.arr,st.x⟩
  |none=>frzR k r env st
 |_=>frzR k r env st
def frzO (k:Env→St→Rc)(t id:Nat)(r:List Nat)(env:Env)(st:St):Option (List V)→Rc
 |some cs=>frzR k r ((t,.ep (.agg cs) 0)::env) ⟨st.nx,dropM id st.mem,st.arr,st.x⟩
 |none=>frzR k r env st
theorem frzR_n {k:Env→St→Rc}:frzR k [] env st=k env st:=idq rfl
theorem frzR_s {k:Env→St→Rc}{t:Nat}{r:List Nat}:frzR k (t::r) env st=frzB k t r env st (look env t):=idq rfl
theorem frzB_p {k:Env→St→Rc}{t id:Nat}{r:List Nat}:frzB k t r env st (some (.ptr id 0))=frzO k t id r env st (look st.mem id):=idq rfl
theorem frzO_s {k:Env→St→Rc}{t id:Nat}{r:List Nat}{cs:List V}:frzO k t id r env st (some cs)=frzR k r ((t,.ep (.agg cs) 0)::env) ⟨st.nx,dropM id st.mem,st.arr,st.x⟩:=idq rfl
theorem dropM_n {id:Nat}:dropM id []=[]:=idq rfl
theorem dropM_s {id i:Nat}{x:List V}{m:List (Nat×List V)}:dropM id ((i,x)::m)=if i=id then dropM id m else(i,x)::dropM id m:=by
 unfold dropM;simp only[List.filter_cons];by_cases h:i=id<;>simp[h]
attribute [push_cast] runC_frz' frzR_n frzR_s frzB_p frzO_s dropM_n dropM_s
theorem runC_loop' {lv:List Nat}{ow:List (Nat×Nat×Nat)}:runC P H (.loop lv ow a) env st=ownR (@kh _ ⟨fun e s=>runL P H lv s.nx a (restr lv e) s⟩) ow env st:=runC_loop
attribute [push_cast] runC_skip runC_exit runC_ret runC_reg runC_dreg' runC_greg runC_seq' runC_join' runC_cond runC_block runC_loop' seqR_n seqR_x seqR_r seqR_i cutR_n cutR_x cutR_r cutR_i cutR_d blockR_n blockR_x blockR_r blockR_i condR_b gd_t gd_f gd_u bindR_s bindE_s bindQ_s callR_s quietR_s iE_call iQ_call callE_f evOps_n evOps_s evOps_d evOps_g evOne_s evOne_d evQ1_s evQ_n evQ_s evQ_g normR_n evG_n evG_s evGs_t evGs_f reE_n reE_s lateE_n lateE_s sameE_s sameO_s dn_t dn_dn if_n if_m if_d1 if_d2 seqR_d blockR_d bindR_d bindE_d bindQ_d callR_d normR_d rawE_d shutR_d openR_d omap_d restR_n restR_x restR_r restR_i restR_d seqR_j mgJ mgJ4 mgR mgT mgE mgL mg_bool mg_int mg_str mg_sl if_and if_or if_nand ite_self ownR_n ownR_s ownB_n ownB_o restr_n restr_s rawE_n rawE_r rawE_i rawO_s resOne_1 resOne_0 resOne_2 conV_s resB_s resV_n resV_t resV_c shutR_s shutR_i guardT_t openR_s argEnv_s argEnv_n stG_eq
end Go.Sha
namespace Go.Sha
theorem get_t {env:Env}{i:Nat}:Opd.get env (.t i)=(look env i).getD .und:=idq rfl
theorem get_c {env:Env}{v:V}:Opd.get env (.c v)=v:=idq rfl
theorem look_cons {α:Type}{k j:Nat}{v:α}{l:List (Nat×α)}:look ((k,v)::l) j=if k=j then some v else look l j:=idq rfl
def wantB (b:Bool):Option V→Option Bool
 |some (.bool t)=>some (t == b)
 |some (.tup [])=>some false
 |_=>none
theorem natV_nn {k:IntKind}{n:Int}(h:0≤n):natV (.int k n)=some n.toNat:=by simp[natV,h]
theorem natV_cast {k:IntKind}{n:Nat}:natV (.int k (n:Int))=some n:=by simp[natV]
theorem natV_add {k:IntKind}{a b:Nat}:natV (.int k ((a:Int)+(b:Int)))=some (a+b):=by rw[←Int.natCast_add];exact natV_cast
theorem natV_add1 {k:IntKind}{a:Nat}:natV (.int k ((a:Int)+1))=some (a+1):=natV_add (b:=1)
theorem binV_add {k:IntKind}{a b:Int}:binV .add (.int k a) (.int k b)=some (.int k (k.wrap (a+b))):=by simp[binV]
theorem binV_sub {k:IntKind}{a b:Int}:binV .sub (.int k a) (.int k b)=some (.int k (k.wrap (a-b))):=by simp[binV]
theorem binV_mul {k:IntKind}{a b:Int}:binV .mul (.int k a) (.int k b)=some (.int k (k.wrap (a*b))):=by simp[binV]
theorem binV_eql {k:IntKind}{a b:Int}:binV .eql (.int k a) (.int k b)=some (.bool (a == b)):=by simp[binV]
theorem binV_neq {k:IntKind}{a b:Int}:binV .neq (.int k a) (.int k b)=some (.bool (a != b)):=by simp[binV]
theorem binV_lss {k:IntKind}{a b:Int}:binV .lss (.int k a) (.int k b)=some (.bool (decide (a<b))):=by simp[binV]
theorem binV_leq {k:IntKind}{a b:Int}:binV .leq (.int k a) (.int k b)=some (.bool (decide (a≤b))):=by simp[binV]
theorem binV_gtr {k:IntKind}{a b:Int}:binV .gtr (.int k a) (.int k b)=some (.bool (decide (b<a))):=by simp[binV]
theorem binV_geq {k:IntKind}{a b:Int}:binV .geq (.int k a) (.int k b)=some (.bool (decide (b≤a))):=by simp[binV]
theorem binV_quo {k:IntKind}{a b:Int}:binV .quo (.int k a) (.int k b)=dn (b≠0) (some (.int k (k.wrap (a.tdiv b)))):=by unfold dn;by_cases h:b=0<;>simp[binV,h]
theorem binV_rem {k:IntKind}{a b:Int}:binV .rem (.int k a) (.int k b)=dn (b≠0) (some (.int k (a.tmod b))):=by unfold dn;by_cases h:b=0<;>simp[binV,h]
theorem binV_shl {k k2:IntKind}{a b:Int}:binV .shl (.int k a) (.int k2 b)=if b<0 then none else some (.int k (k.wrap (a*2 ^ (min b.toNat k.bits)))):=by simp[binV]
theorem binV_shr {k k2:IntKind}{a b:Int}:binV .shr (.int k a) (.int k2 b)=if b<0 then none else some (.int k (a.fdiv (2 ^ (min b.toNat k.bits)))):=by simp[binV]
theorem binV_cat {s t:List UInt8}:binV .add (.str s) (.str t)=if s.length+t.length≤9223372036854775807 then some (.str (s++t)) else none:=idq rfl
theorem binV_seql {s t:List UInt8}:binV .eql (.str s) (.str t)=some (.bool (s == t)):=idq rfl
theorem binV_sneq {s t:List UInt8}:binV .neq (.str s) (.str t)=some (.bool (s != t)):=idq rfl
theorem pickV_b {t:Bool}{a b:V}:pickV (.bool t) a b=some (if t=true then a else b):=by cases t<;>rfl
theorem mapO_n {f:V→Option V}:mapO f []=some []:=idq rfl
def consO:Option V→Option (List V)→Option (List V)
 |some y,some ys=>some (y::ys)
 |_,_=>none
theorem mapO_c {f:V→Option V}{x:V}{r:List V}:mapO f (x::r)=consO (f x) (mapO f r):=by simp only[mapO];unfold consO;rfl
theorem consO_s {y:V}{ys:List V}:consO (some y) (some ys)=some (y::ys):=idq rfl
theorem bdL_map' {α:Type}{n:Nat}{f:α→V}{l:List α}:V.bdL n (l.map f)=l.all fun x=>(f x).bd n:=by
 induction l with
 |nil=>rfl
 |cons x l ih=>simp only[List.map_cons,V.bdL,List.all_cons,ih]
theorem all_true {α:Type}{l:List α}:(l.all fun _=>true)=true:=by induction l<;>simp_all
theorem beqN (n:Nat):(n == n)=true:=beq_self_eq_true n
theorem iadr_map {α:Type}[Inhabited α]{f:α→V}{l:List α}{st:St}{es:Nat}{k:IntKind}{n:Int}(he:∀x,(f x).cells.length=es) :
  iadrV st es (.sl (l.map f)) (.int k n)=dn (0≤n∧n<l.length) (some (.ep (f (l.getD n.toNat default)) 0)):=by
 unfold dn
 by_cases h0:0≤n
 ·obtain⟨j,rfl⟩:=Int.eq_ofNat_of_zero_le h0
  simp only[iadrV,natV,h0,if_true,true_and,epV,Int.toNat_natCast]
  by_cases h:j<l.length
  ·rw[if_pos (by omega),List.getElem?_map,List.getElem?_eq_getElem h]
   simp[he,h]
  ·rw[if_neg (by omega),List.getElem?_map,List.getElem?_eq_none (by omega)];rfl
 ·simp[iadrV,natV,h0]
theorem iadr_sl {l:List V}{st:St}{es:Nat}{k:IntKind}{n:Int} :
  iadrV st es (.sl l) (.int k n)=dn (0≤n∧n<l.length∧(l.getD n.toNat .und).cells.length=es) (some (.ep (l.getD n.toNat .und) 0)):=by
 unfold dn
 by_cases h0:0≤n
 ·obtain⟨j,rfl⟩:=Int.eq_ofNat_of_zero_le h0
  simp only[iadrV,natV,h0,if_true,true_and,epV,Int.toNat_natCast]
  by_cases h:j<l.length
  ·rw[List.getElem?_eq_getElem h,List.getD_eq_getElem?_getD,List.getElem?_eq_getElem h]
   have:(j:Int)<l.length:=by omega
   simp[this]
  ·rw[if_neg (by omega),List.getElem?_eq_none (by omega)]
 ·simp[iadrV,natV,h0]
theorem ichr_str {s:List UInt8}{k:IntKind}{n:Int}:ichrV (.str s) (.int k n)=dn (0≤n∧n<s.length) (some (.int .u8 (s.getD n.toNat 0).toNat)):=by
 unfold dn
 by_cases h0:0≤n
 ·obtain⟨j,rfl⟩:=Int.eq_ofNat_of_zero_le h0
  simp only[ichrV,natV,h0,if_true,true_and,Int.toNat_natCast]
  by_cases h:j<s.length
  ·rw[if_pos (by omega),List.getD_eq_getElem?_getD,List.getElem?_eq_getElem h];rfl
  ·rw[if_neg (by omega),List.getElem?_eq_none (by omega)];rfl
 ·simp[ichrV,natV,h0]
theorem bounds_v {n:Nat}{k k':IntKind}{a b:Int}:boundsV n (some (.int k a)) (some (.int k' b))=dn (0≤a∧a≤b∧b≤n) (some (a.toNat,b.toNat)):=by
 unfold dn
 simp only[boundsV,optN,natV]
 by_cases h0:0≤a<;>by_cases h1:0≤b<;>simp only[h0,h1,if_true,if_false,true_and,false_and]
 ·by_cases h2:a≤b∧b≤n
  ·rw[if_pos h2,if_pos (by omega)]
  ·rw[if_neg h2,if_neg (by omega)]
 ·rw[if_neg (by omega)]
theorem bounds_n {n:Nat}{k:IntKind}{a:Int}:boundsV n (some (.int k a)) none=dn (0≤a∧a≤n) (some (a.toNat,n)):=by
 unfold dn
 simp only[boundsV,optN,natV]
 by_cases h0:0≤a<;>simp only[h0,if_true,if_false,true_and,false_and]
 by_cases h2:a≤n
 ·rw[if_pos h2,if_pos (by omega)]
 ·rw[if_neg h2,if_neg (by omega)]
theorem bounds_0 {n:Nat}{k:IntKind}{b:Int}:boundsV n none (some (.int k b))=dn (0≤b∧b≤n) (some (0,b.toNat)):=by
 unfold dn
 simp only[boundsV,optN,natV]
 by_cases h1:0≤b<;>simp only[h1,if_true,if_false,true_and,false_and]
 by_cases h2:b≤n
 ·rw[if_pos h2,if_pos (by omega)]
 ·rw[if_neg h2,if_neg (by omega)]
theorem slice_str {s:List UInt8}{lo hi:Option V}:sliceStr (.str s) lo hi=(boundsV s.length lo hi).map fun p=>.str ((s.take p.2).drop p.1):=by
 simp only[sliceStr];cases boundsV s.length lo hi<;>rfl
theorem slice_sl {st:St}{es:Nat}{xs:List V}{lo hi:Option V}:sliceV st es (.sl xs) lo hi none=dn ((xs.all fun x=>x.cells.length == es)=true) ((boundsV xs.length lo hi).map fun p=>.sl ((xs.take p.2).drop p.1)):=by
 unfold dn
 by_cases h:(xs.all fun x=>x.cells.length == es)=true
 ·simp only[sliceV,fixedV,h,if_true];cases boundsV xs.length lo hi<;>rfl
 ·simp only[sliceV,fixedV,h,if_false,Bool.false_eq_true]
theorem getD_app {α:Type}{l r:List α}{x d:α}:(l++x::r).getD l.length d=x:=by simp[List.getD_eq_getElem?_getD]
theorem iwrap {n:Int}(h1:-9223372036854775808≤n)(h2:n≤9223372036854775807):IntKind.i64.wrap n=n:=by
 simp only[IntKind.wrap,IntKind.bits,IntKind.signed]
 simp
 split<;>omega
theorem ce_bool {b:Bool}:V.cells (.bool b)=[.bool b]:=idq rfl
theorem ig_bool {b:Bool}:V.isAgg (.bool b)=false:=idq rfl
theorem snap1_bool {st:St}{b:Bool}:snap1 st (.bool b)=some (.bool b):=idq rfl
theorem snapA_bool {st:St}{b:Bool}:snapA st (.bool b)=some (.bool b):=idq rfl
theorem snapV_bool {st:St}{b:Bool}:snapV st (.bool b)=some (.bool b):=idq rfl
theorem shutA_bool {st:St}{b:Bool}:shutA st (.bool b)=.bool b:=idq rfl
theorem shutV_bool {st:St}{b:Bool}:shutV st (.bool b)=.bool b:=idq rfl
theorem po_bool {st:St}{b:Bool}:partOk st (.bool b)=true:=idq rfl
theorem ce_int {k:IntKind}{n:Int}:V.cells (.int k n)=[.int k n]:=idq rfl
theorem snap1_int {st:St}{k:IntKind}{n:Int}:snap1 st (.int k n)=some (.int k n):=idq rfl
theorem snapA_int {st:St}{k:IntKind}{n:Int}:snapA st (.int k n)=some (.int k n):=idq rfl
theorem snapV_int {st:St}{k:IntKind}{n:Int}:snapV st (.int k n)=some (.int k n):=idq rfl
theorem shut1_int {st:St}{k:IntKind}{n:Int}:shut1 st (.int k n)=.int k n:=idq rfl
theorem shutA_int {st:St}{k:IntKind}{n:Int}:shutA st (.int k n)=.int k n:=idq rfl
theorem shutV_int {st:St}{k:IntKind}{n:Int}:shutV st (.int k n)=.int k n:=idq rfl
theorem po_int {st:St}{k:IntKind}{n:Int}:partOk st (.int k n)=true:=idq rfl
theorem ce_str {s:List UInt8}:V.cells (.str s)=[.str s]:=idq rfl
theorem ig_str {s:List UInt8}:V.isAgg (.str s)=false:=idq rfl
theorem snap1_str {st:St}{s:List UInt8}:snap1 st (.str s)=some (.str s):=idq rfl
theorem snapA_str {st:St}{s:List UInt8}:snapA st (.str s)=some (.str s):=idq rfl
theorem shutA_str {st:St}{s:List UInt8}:shutA st (.str s)=.str s:=idq rfl
theorem shutV_str {st:St}{s:List UInt8}:shutV st (.str s)=.str s:=idq rfl
theorem po_str {st:St}{s:List UInt8}:partOk st (.str s)=true:=idq rfl
theorem snapA_ptr {st:St}{i o:Nat}:snapA st (.ptr i o)=some (.ptr i o):=idq rfl
theorem ce_sl {xs:List V}:V.cells (.sl xs)=[.sl xs]:=idq rfl
theorem snap1_sl {st:St}{xs:List V}:snap1 st (.sl xs)=some (.sl xs):=idq rfl
theorem snapA_sl {st:St}{xs:List V}:snapA st (.sl xs)=some (.sl xs):=idq rfl
theorem shut1_sl {st:St}{xs:List V}:shut1 st (.sl xs)=.sl xs:=idq rfl
theorem shutA_sl {st:St}{xs:List V}:shutA st (.sl xs)=.sl xs:=idq rfl
theorem shutV_sl {st:St}{xs:List V}:shutV st (.sl xs)=.sl xs:=idq rfl
theorem po_sl {st:St}{xs:List V}:partOk st (.sl xs)=true:=idq rfl
theorem ce_osl {i n:Nat}:V.cells (.osl i n)=[.osl i n]:=idq rfl
theorem snapA_ep {st:St}{x:V}{o:Nat}:snapA st (.ep x o)=some (.ep x o):=idq rfl
theorem ce_agg {cs:List V}:V.cells (.agg cs)=cs:=idq rfl
theorem po_agg {st:St}{cs:List V}:partOk st (.agg cs)=true:=idq rfl
theorem ce_fn {f:Fn}{a b:List V}:V.cells (.fn f a b)=[.fn f a b]:=idq rfl
theorem snap1_fn {st:St}{f:Fn}{a b:List V}:snap1 st (.fn f a b)=some (.fn f a b):=idq rfl
theorem snapA_fn {st:St}{f:Fn}{a b:List V}:snapA st (.fn f a b)=some (.fn f a b):=idq rfl
theorem po_fn {st:St}{f:Fn}{a b:List V}:partOk st (.fn f a b)=true:=idq rfl
theorem ce_mp {i:Nat}:V.cells (.mp i)=[.mp i]:=idq rfl
theorem po_mp {st:St}{i:Nat}:partOk st (.mp i)=true:=idq rfl
theorem ce_mpc {a b:List V}:V.cells (.mpc a b)=[.mpc a b]:=idq rfl
theorem snap1_mpc {st:St}{a b:List V}:snap1 st (.mpc a b)=some (.mpc a b):=idq rfl
theorem po_mpc {st:St}{a b:List V}:partOk st (.mpc a b)=true:=idq rfl
theorem snapA_nils {st:St}:snapA st .nils=some (.sl []):=idq rfl
theorem shutA_nils {st:St}:shutA st .nils=.sl []:=idq rfl
theorem snapA_agg {st:St}{cs:List V}:snapA st (.agg cs)=(mapO (snap1 st) cs).map .agg:=idq rfl
theorem snapV_tup {st:St}{cs:List V}:snapV st (.tup cs)=(mapO (snapA st) cs).map .tup:=idq rfl
theorem shutA_agg {st:St}{cs:List V}:shutA st (.agg cs)=.agg (cs.map (shut1 st)):=idq rfl
theorem shutV_agg {st:St}{cs:List V}:shutV st (.agg cs)=.agg (cs.map (shut1 st)):=idq rfl
theorem shutV_tup {st:St}{cs:List V}:shutV st (.tup cs)=.tup (cs.map (shutA st)):=idq rfl
def snapO (n:Nat):Option Arr→Option V
 |some a=>if a.xs.length=n∧a.wr=false then some (.sl a.xs) else none
 |none=>none
def shutO (i n:Nat):Option Arr→V
 |some a=>if a.xs.length=n then .sl a.xs else .osl i n
 |none=>.osl i n
def shutM (i:Nat):Option Ob→V
 |some (.map es)=>.mpc (es.map (·.1)) (es.map (·.2))
 |_=>.mp i
section
variable {st:St}{i n:Nat}
theorem snapO_s {a:Arr}:snapO n (some a)=if a.xs.length=n∧a.wr=false then some (.sl a.xs) else none:=idq rfl
theorem shutO_s {a:Arr}:shutO i n (some a)=if a.xs.length=n then .sl a.xs else .osl i n:=idq rfl
theorem shutM_s {es:List (V×V)}:shutM i (some (.map es))=.mpc (es.map (·.1)) (es.map (·.2)):=idq rfl
theorem snap1_osl:snap1 st (.osl i n)=snapO n (look st.arr i):=by unfold snap1 snapO;rfl
theorem snapA_osl:snapA st (.osl i n)=snapO n (look st.arr i):=snap1_osl
theorem snapV_osl:snapV st (.osl i n)=snapO n (look st.arr i):=snap1_osl
theorem shut1_osl:shut1 st (.osl i n)=shutO i n (look st.arr i):=by unfold shut1 shutO;rfl
theorem shutA_osl:shutA st (.osl i n)=shutO i n (look st.arr i):=shut1_osl
theorem shutV_osl:shutV st (.osl i n)=shutO i n (look st.arr i):=shut1_osl
theorem shut1_mp:shut1 st (.mp i)=shutM i (look st.x.obj i):=by unfold shut1 shutM;rfl
def loadM (n:Option Nat)(off:Nat):Option (List V)→Option V
 |some cs=>rd n cs off
 |none=>none
theorem loadM_s {m:Option Nat}{o:Nat}{cs:List V}:loadM m o (some cs)=rd m cs o:=idq rfl
theorem load_ptr {m:Option Nat}{o:Nat}:loadV st m (.ptr i o)=loadM m o (look st.mem i):=by unfold loadV loadM;rfl
theorem load_ep {m:Option Nat}{o:Nat}{x:V}:loadV st m (.ep x o)=rd m x.cells o:=idq rfl
theorem rd_n {cs:List V}{o:Nat}:rd none cs o=cs[o]?:=idq rfl
theorem rd_s {m o:Nat}{cs:List V}:rd (some m) cs o=if o+m≤cs.length then some (.agg ((cs.drop o).take m)) else none:=idq rfl
def loadA (n:Option Nat)(m i es off:Nat):Option Arr→Option V
 |some a=>if a.xs.length=m∧a.es=es then match a.xs[i]? with
  |some x=>rd n x.cells off
  |none=>none
  else none
 |none=>none
theorem load_op {q:Option Nat}{m es o:Nat}:loadV st q (.op i m n es o)=loadA q m n es o (look st.arr i):=by unfold loadV loadA;rfl
theorem loadA_s {q:Option Nat}{m es o:Nat}{a:Arr}:loadA q m n es o (some a)=dn (a.xs.length=m∧a.es=es∧n<a.xs.length) (rd q (a.xs.getD n .und).cells o):=by
 unfold dn loadA
 by_cases h:a.xs.length=m∧a.es=es
 ·by_cases h2:n<a.xs.length
  ·have:=h.1
   simp only[h,h2,List.getD_eq_getElem?_getD,List.getElem?_eq_getElem h2,Option.getD_some,and_self,if_true]
   rw[if_pos ⟨trivial,trivial,by omega⟩]
  ·simp[h,List.getElem?_eq_none (Nat.le_of_not_lt h2)];intro h3;omega
 ·simp only[h,if_false];rw[if_neg (fun hh=>h ⟨hh.1,hh.2.1⟩)]
def stoM (st:St)(id off n:Nat)(x:List V):Option (List V)→Option St
 |some cs=>if off+n≤cs.length then some ⟨st.nx,updM st.mem id (cs.take off++x++cs.drop (off+n)),st.arr,st.x⟩ else none
 |none=>none
theorem stoM_s {o m:Nat}{x cs:List V}:stoM st i o m x (some cs)=if o+m≤cs.length then some ⟨st.nx,updM st.mem i (cs.take o++x++cs.drop (o+m)),st.arr,st.x⟩ else none:=idq rfl
theorem sto_ptr {m o:Nat}{x:V}:storeV st m (.ptr i o) x=if partOk st x=true∧x.cells.length=m then stoM st i o m x.cells (look st.mem i) else none:=by unfold storeV stoM;rfl
def stoB (st:St)(n id i off:Nat)(r:Arr):Option V→Option V→Option St
 |some y,some x'=>(y.recell (y.cells.take off++x'.cells++y.cells.drop (off+n))).map fun y'=>⟨st.nx,st.mem,updA st.arr id ⟨r.e,r.es,r.xs.set i y',r.wr,r.fz⟩,st.x⟩
 |_,_=>none
def stoA (st:St)(n id m i es off:Nat)(x:V):Option Arr→Option St
 |some r=>if r.xs.length=m∧r.es=es∧r.wr=true∧off+n≤es then stoB st n id i off r r.xs[i]? (snapA st x) else none
 |none=>none
theorem stoA_s {a b c m es o:Nat}{x:V}{r:Arr}:stoA st m a b c es o x (some r)=if r.xs.length=b∧r.es=es∧r.wr=true∧o+m≤es then stoB st m a c o r r.xs[c]? (snapA st x) else none:=idq rfl
theorem stoB_s {m o:Nat}{r:Arr}{x y:V}:stoB st m i n o r (some y) (some x)=(y.recell (y.cells.take o++x.cells++y.cells.drop (o+m))).map fun y'=>⟨st.nx,st.mem,updA st.arr i ⟨r.e,r.es,r.xs.set n y',r.wr,r.fz⟩,st.x⟩:=idq rfl
theorem sto_op {a b c m es o:Nat}{x:V}:storeV st m (.op a b c es o) x=if partOk st x=true∧x.cells.length=m then stoA st m a b c es o x (look st.arr a) else none:=by
 unfold storeV stoA stoB;rfl
def elsO (n:Nat):Option Arr→Option (List V)
 |some a=>if a.xs.length=n then some a.xs else none
 |none=>none
theorem elsO_s {a:Arr}:elsO n (some a)=if a.xs.length=n then some a.xs else none:=idq rfl
theorem els_osl:elemsV st (.osl i n)=elsO n (look st.arr i):=by unfold elemsV elsO;rfl
theorem els_sl {xs:List V}:elemsV st (.sl xs)=some xs:=idq rfl
theorem len_eq {x:V}:lenV st x=(elemsV st x).map fun xs=>.int .i64 xs.length:=idq rfl
theorem lens_s {s:List UInt8}:lensV (.str s)=some (.int .i64 s.length):=idq rfl
def iadO (es j id:Nat)(m:Nat):Option Arr→Option V
 |some a=>if a.xs.length=m∧a.es=es∧j<m then some (.op id m j es 0) else none
 |none=>none
def iadN (st:St)(es id m:Nat):Option Nat→Option V
 |some j=>iadO es j id m (look st.arr id)
 |none=>none
theorem iadN_s {es j m:Nat}:iadN st es i m (some j)=iadO es j i m (look st.arr i):=idq rfl
theorem iadO_s {es j m:Nat}{a:Arr}:iadO es j i m (some a)=if a.xs.length=m∧a.es=es∧j<m then some (.op i m j es 0) else none:=idq rfl
theorem iadr_osl {es m:Nat}{x:V}:iadrV st es (.osl i m) x=iadN st es i m (natV x):=by unfold iadrV iadN iadO;cases natV x<;>rfl
def iaaN (len es id off:Nat):Option Nat→Option V
 |some j=>if j<len then some (.ptr id (off+j*es)) else none
 |none=>none
theorem iaaN_s {len es j o:Nat}:iaaN len es i o (some j)=if j<len then some (.ptr i (o+j*es)) else none:=idq rfl
theorem iadra_ptr {len es o:Nat}{x:V}:iadraV len es (.ptr i o) x=iaaN len es i o (natV x):=by unfold iadraV iaaN;cases natV x<;>rfl
def iaeN (len es:Nat)(y:V)(off:Nat):Option Nat→Option V
 |some j=>if j<len then some (.ep y (off+j*es)) else none
 |none=>none
theorem iaeN_s {len es j o:Nat}{y:V}:iaeN len es y o (some j)=if j<len then some (.ep y (o+j*es)) else none:=idq rfl
theorem iadra_ep {len es o:Nat}{x y:V}:iadraV len es (.ep y o) x=iaeN len es y o (natV x):=by unfold iadraV iaeN;cases natV x<;>rfl
theorem nilc_ptr {o:Nat}:nilcV (.ptr i o)=some (.ptr i o):=idq rfl
theorem nilc_ep {x:V}{o:Nat}:nilcV (.ep x o)=some (.ep x o):=idq rfl
theorem un_not {b:Bool}:unV .not (.bool b)=some (.bool (!b)):=idq rfl
theorem fad_ptr {o q:Nat}:fadrV st o (.ptr i q)=some (.ptr i (q+o)):=idq rfl
theorem fad_ep {o q:Nat}{x:V}:fadrV st o (.ep x q)=some (.ep x (q+o)):=idq rfl
def aliA (n i:Nat):Option Arr→Bool
 |some a=>a.xs.length == n&&decide (i<n)
 |none=>false
theorem aliA_s {m:Nat}{a:Arr}:aliA n m (some a)=(a.xs.length == n&&decide (m<n)):=idq rfl
theorem fad_op {o m j es q:Nat}:fadrV st o (.op i m j es q)=if aliA m j (look st.arr i)=true then some (.op i m j es (q+o)) else none:=by unfold fadrV aliveB aliA;rfl
theorem fld_a {m:Option Nat}{o:Nat}{cs:List V}:fldV m o (.agg cs)=rd m cs o:=idq rfl
theorem ext_t {vs:List V}:extV i (.tup vs)=vs[i]?:=idq rfl
theorem cvi_i {k k2:IntKind}{m:Int}:cviV k (.int k2 m)=some (.int k (k.wrap m)):=idq rfl
theorem cvis_i {k:IntKind}{m:Int}:cvisV (.int k m)=some (.str (Utf8.encode m).data.toList):=idq rfl
def iaN (len:Nat)(n:Option Nat)(es:Nat)(cs:List V):Option Nat→Option V
 |some j=>if j<len then rd n cs (j*es) else none
 |none=>none
theorem iaN_s {len es j:Nat}{m:Option Nat}{cs:List V}:iaN len m es cs (some j)=if j<len then rd m cs (j*es) else none:=idq rfl
theorem gen_ia {len es:Nat}{m:Option Nat}{cs:List V}{x:V}:genV (.ia len m es) [.agg cs,x]=iaN len m es cs (natV x):=by simp only[genV];unfold iaN;rfl
theorem act_mk:actV .mkmap [] st=some (.mp st.nx,⟨st.nx+1,st.mem,st.arr,⟨(st.nx,.map [])::st.x.obj,st.x.gl,st.x.ty⟩⟩):=idq rfl
def lookB (st:St)(z:V)(ok:Bool):Option (Option (Nat×V))→Option (V×St)
 |some (some (_,v))=>some (if ok=true then .tup [v,.bool true] else v,st)
 |some none=>some (if ok=true then .tup [z,.bool false] else z,st)
 |none=>none
def lookA (st:St)(q:KT)(z:V)(ok:Bool)(k:V):Option (List (V×V))→Option (V×St)
 |some es=>if keyV q k=true then lookB st z ok (findV k es 0) else none
 |none=>none
theorem act_look {q:KT}{z m k:V}{ok:Bool}:actV (.look q z ok) [m,k] st=lookA st q z ok k (mapOf st m):=by
 simp only[actV];unfold lookA lookB;rfl
theorem lookA_s {q:KT}{z k:V}{ok:Bool}{es:List (V×V)}:lookA st q z ok k (some es)=if keyV q k=true then lookB st z ok (findV k es 0) else none:=idq rfl
theorem lookB_s {z v:V}{ok:Bool}:lookB st z ok (some (some (i,v)))=some (if ok=true then .tup [v,.bool true] else v,st):=idq rfl
theorem lookB_n {z:V}{ok:Bool}:lookB st z ok (some none)=some (if ok=true then .tup [z,.bool false] else z,st):=idq rfl
def mapD:Option Ob→Option (List (V×V))
 |some (.map es)=>some es
 |_=>none
theorem mapD_s {es:List (V×V)}:mapD (some (.map es))=some es:=idq rfl
theorem mapOf_mp:mapOf st (.mp i)=mapD (look st.x.obj i):=by
 simp only[mapOf];cases h:look st.x.obj i with
 |none=>rfl
 |some o=>cases o<;>rfl
theorem mapOf_mpc {es:List (V×V)}:mapOf st (.mpc (es.map (·.1)) (es.map (·.2)))=some es:=by
 have:(es.map (·.1)).zip (es.map (·.2))=es:=by induction es with|nil=>rfl|cons p r ih=>simp[ih]
 simp[mapOf,this]
def msetB (st:St)(id:Nat)(es:List (V×V))(k v:V):Option (Option (Nat×V))→Option (V×St)
 |some r=>some (.und,⟨st.nx,st.mem,st.arr,⟨updO st.x.obj id (.map (putM es k v r)),st.x.gl,st.x.ty⟩⟩)
 |none=>none
def msetA (st:St)(q:KT)(id:Nat)(k v:V):Option (List (V×V))→Option (V×St)
 |some es=>if keyV q k=true then msetB st id es k v (findV k es 0) else none
 |none=>none
theorem act_mset {q:KT}{k v:V}:actV (.mset q) [.mp i,k,v] st=msetA st q i k v (mapD (look st.x.obj i)):=by
 simp only[actV]
 cases h:look st.x.obj i with
 |none=>rfl
 |some o=>cases o<;>simp only[mapD,msetA,msetB]<;>rfl
theorem msetA_s {q:KT}{k v:V}{es:List (V×V)}:msetA st q i k v (some es)=if keyV q k=true then msetB st i es k v (findV k es 0) else none:=idq rfl
theorem key_i {q:IntKind}{m:Int}:keyV (.i q) (.int q m)=true:=by simp[keyV]
theorem key_s {x:List UInt8}:keyV .s (.str x)=true:=idq rfl
theorem sla_ep {len:Nat}{cs:List V}{lo hi:V}:slaV st len (.ep (.agg cs) 0) lo hi=if cs.length=len∧(cs.all fun c=>!c.isAgg)=true then(boundsV len (some lo) (some hi)).map fun p=>(.sl ((cs.take p.2).drop p.1),st) else none:=idq rfl
attribute [push_cast] sla_ep
theorem act_sla {len:Nat}{x lo hi:V}:actV (.sla len) [x,lo,hi] st=slaV st len x lo hi:=idq rfl
theorem box_eq {x:V}:boxV st x=if partOk st x=true then some (.ptr st.nx 0,⟨st.nx+1,(st.nx,x.cells)::st.mem,st.arr,st.x⟩) else none:=idq rfl
def bslO (st:St)(e es:Nat):Option (List V)→Option (V×St)
 |some ys=>if(ys.all fun y=>partOk st y&&y.cells.length == es)=true then some (.osl st.nx ys.length,⟨st.nx+1,st.mem,(st.nx,⟨e,es,ys,false,false⟩)::st.arr,st.x⟩) else none
 |none=>none
theorem bsl_eq {e es:Nat}{xs:List V}:bsliceV e es xs st=bslO st e es (mapO (snapA st) xs):=by unfold bsliceV bslO newArr;rfl
theorem bslO_s {e es:Nat}{ys:List V}:bslO st e es (some ys)=if(ys.all fun y=>partOk st y&&y.cells.length == es)=true then some (.osl st.nx ys.length,⟨st.nx+1,st.mem,(st.nx,⟨e,es,ys,false,false⟩)::st.arr,st.x⟩) else none:=idq rfl
theorem cvsb_s {e:TypeId}{s:List UInt8}:cvsbV e (.str s) st=if s.length≤maxLen then some (.osl st.nx (s.map bV).length,⟨st.nx+1,st.mem,(st.nx,⟨e,1,s.map bV,true,true⟩)::st.arr,st.x⟩) else none:=idq rfl
def appS (st:St)(e es b:Nat)(s:V):Option (List V)→Option (V×St)
 |some ys=>if(ys.all fun y=>y.cells.length == es)=true then appG st e es b ys s else none
 |none=>none
def appY (st:St)(e es b:Nat)(s:V):Option (List V)→Option (V×St)
 |some ys=>appS st e es b s (mapO (snapA st) ys)
 |none=>none
theorem app_eq {e es b:Nat}{s x:V}:appendV st e es b s x=appY st e es b s (elemsV st x):=by
 unfold appendV appY appS
 cases elemsV st x with
 |none=>rfl
 |some ys=>simp only;cases mapO (snapA st) ys<;>rfl
theorem appY_s {e es b:Nat}{s:V}{ys:List V}:appY st e es b s (some ys)=appS st e es b s (mapO (snapA st) ys):=idq rfl
theorem appS_s {e es b:Nat}{s:V}{ys:List V}:appS st e es b s (some ys)=if(ys.all fun y=>y.cells.length == es)=true then appG st e es b ys s else none:=idq rfl
theorem appG_osl {e es b:Nat}{ys:List V}:appG st e es b ys (.osl i n)=appA st e es b i n ys (look st.arr i):=idq rfl
theorem appA_s {e es b:Nat}{ys:List V}{r:Arr}:appA st e es b i n ys (some r)=if r.xs.length=n∧r.e=e∧r.es=es∧r.fz=false∧roomV (n+ys.length) b=true then
  some (.osl i (n+ys.length),⟨st.nx,st.mem,updA st.arr i ⟨r.e,r.es,r.xs++ys,r.wr,r.fz⟩,st.x⟩) else none:=idq rfl
theorem fill_n {cs:List V}:fillV st cs []=some cs:=idq rfl
theorem fill_c {cs:List V}{o m:Nat}{v:V}{r:List (Nat×Nat×V)}:fillV st cs ((o,m,v)::r)=if partOk st v=true∧v.cells.length=m∧o+m≤cs.length then fillV st (cs.take o++v.cells++cs.drop (o+m)) r else none:=idq rfl
end
theorem roomV_lit {n b:Nat}(h:n*b≤140737488355328)(h2:n≤140737488355328):roomV n b=true:=by
 simp[roomV,h];unfold maxLen;omega
theorem take_map' {α β:Type}{f:α→β}{l:List α}{n:Nat}:(l.map f).take n=(l.take n).map f:=List.map_take.symm
theorem drop_map' {α β:Type}{f:α→β}{l:List α}{n:Nat}:(l.map f).drop n=(l.drop n).map f:=List.map_drop.symm
theorem slice_map {α:Type}{f:α→V}{l:List α}{st:St}{es:Nat}{lo hi:Option V}(he:∀x,(f x).cells.length=es):sliceV st es (.sl (l.map f)) lo hi none=(boundsV l.length lo hi).map fun p=>.sl (((l.take p.2).drop p.1).map f):=by
 have h:((l.map f).all fun x=>x.cells.length == es)=true:=by simp[he]
 rw[slice_sl,h,List.length_map];simp only[take_map',drop_map',dn,if_true]
theorem iadr_cons {l:List V}{a:V}{st:St}{es:Nat}{k:IntKind}{n:Int}:iadrV st es (.sl (a::l)) (.int k n)=dn (0≤n∧n<((a::l).length:Nat)∧((a::l).getD n.toNat .und).cells.length=es) (some (.ep ((a::l).getD n.toNat .und) 0)):=iadr_sl
attribute [push_cast] slice_map iadr_cons
attribute [push_cast] get_t get_c look_cons natV_nn natV_cast natV_add natV_add1 binV_add binV_sub binV_mul binV_eql binV_neq binV_lss binV_leq binV_gtr binV_geq binV_quo binV_rem binV_shl binV_shr binV_cat binV_seql binV_sneq pickV_b ichr_str bounds_v bounds_n bounds_0 slice_str getD_app iadr_map mapO_n mapO_c consO_s bdL_map' all_true beqN ce_bool ig_bool snap1_bool snapA_bool snapV_bool shutA_bool shutV_bool po_bool ce_int snap1_int snapA_int snapV_int shut1_int shutA_int shutV_int po_int ce_str ig_str snap1_str snapA_str shutA_str shutV_str po_str snapA_ptr ce_sl snap1_sl snapA_sl shut1_sl shutA_sl shutV_sl po_sl ce_osl snapA_ep ce_agg po_agg ce_fn snap1_fn snapA_fn po_fn ce_mp po_mp ce_mpc snap1_mpc po_mpc snapA_nils shutA_nils snapA_agg snapV_tup shutA_agg shutV_agg shutV_tup snapO_s shutO_s shutM_s snap1_osl snapA_osl snapV_osl shut1_osl shutA_osl shutV_osl shut1_mp loadM_s load_ptr load_ep rd_n rd_s load_op loadA_s stoM_s sto_ptr stoA_s stoB_s sto_op elsO_s els_osl els_sl len_eq lens_s iadN_s iadO_s iadr_osl iaaN_s iadra_ptr iaeN_s iadra_ep nilc_ptr nilc_ep un_not fad_ptr fad_ep aliA_s fad_op fld_a ext_t cvi_i cvis_i iaN_s gen_ia act_mk act_look lookA_s lookB_s lookB_n mapD_s mapOf_mp mapOf_mpc act_mset msetA_s key_i key_s act_sla box_eq bsl_eq bslO_s cvsb_s app_eq appY_s appS_s appG_osl appA_s fill_n fill_c updM updA updO snapL keepL belowL cutS cutB envB headS V.recell V.bd V.bdL Ob.bd elemZ picks valD SOp.quiet List.length_cons List.length_nil List.length_map List.length_append List.length_replicate List.map_cons List.map_nil List.nil_append List.append_nil List.cons_append List.append_assoc List.take_succ_cons List.take_zero List.drop_succ_cons List.drop_zero List.take_nil List.drop_nil List.reverse_cons List.reverse_nil List.getElem?_cons_zero List.getElem?_cons_succ List.getElem?_map List.getElem?_nil List.all_cons List.all_nil List.all_map List.headD_cons List.tail_cons Option.getD_some Option.getD_none Option.map_some Option.map_none if_true if_false Bool.false_eq_true Bool.not_true Bool.not_false Bool.and_self Bool.true_and Bool.and_true Bool.and_false Bool.false_and Bool.or_true Bool.true_or Bool.or_false Bool.false_or and_self and_true true_and cond_true cond_false beq_true beq_false Bool.bne_false Bool.bne_true decide_true decide_false decide_eq_true_eq Nat.add_zero Nat.zero_add beq_iff_eq bne_iff_ne ne_eq not_true_eq_false not_false_eq_true Bool.not_eq_true' Bool.not_eq_true Bool.and_eq_true Bool.or_eq_true decide_eq_false_iff_not beq_eq_false_iff_ne implies_true forall_const Bool.decide_eq_true Bool.decide_eq_false Int.toNat_natCast Int.natCast_nonneg take_map' drop_map'
theorem iwrap_pred {j:Nat}(h:j<140737488355328):IntKind.i64.wrap ((j:Int)-1)=(j:Int)-1:=by
 unfold IntKind.wrap
 simp[IntKind.bits,IntKind.signed]
 omega
theorem toNat_pred {j:Nat}:((j:Int)-1).toNat=j-1:=by omega
attribute [push_cast] iwrap toNat_pred List.getD_cons_zero List.getD_cons_succ
def stN (g:List (Nat×Obj))(n:Nat):St:=⟨n,[],[],⟨[],g,[]⟩⟩
@[push_cast]theorem stN_eq {g:List (Nat×Obj)}{n:Nat}:stN g n=⟨n,[],[],⟨[],g,[]⟩⟩:=idq rfl
def stO (g:List (Nat×Obj))(e es:Nat)(xs:List V):St:=⟨1,[],[(0,⟨e,es,xs,true,true⟩)],⟨[],g,[]⟩⟩
@[push_cast]theorem stO_eq {g:List (Nat×Obj)}{e es:Nat}{xs:List V}:stO g e es xs=⟨1,[],[(0,⟨e,es,xs,true,true⟩)],⟨[],g,[]⟩⟩:=idq rfl
theorem getD_drop {α β:Type}{f:α→β}{l r:List α}{q:α}{j:Nat}(hd:l.drop j=q::r):∀d,(l.map f).getD j d=f q:=fun d=>by
 have h:l[j]?=some q:=by have:=congrArg (·[0]?) hd;simpa using this
 rw[List.getD_eq_getElem?_getD,List.getElem?_map,h];rfl
theorem mgO {β:Type}{c d:Prop}[Decidable c][Decidable d]{x y:β}:(if c then x else if d then x else y)=if c∨d then x else y:=by by_cases h:c<;>by_cases h':d<;>simp[h,h']
def lpE (s:St)(e:Env)(k:Nat)(v:Int):Option (VX×Env×St):=if v=0 then some (.exit 0,e,s) else some (.ret,[(k,.int .i64 v)],s)
theorem lpE_ite {s:St}{e:Env}{k:Nat}{a b:Int}{c:Prop}[Decidable c]:lpE s e k (if c then a else b)=if c then lpE s e k a else lpE s e k b:=by split<;>rfl
theorem lpE_0 {s:St}{e:Env}{k:Nat}:lpE s e k 0=some (.exit 0,e,s):=idq rfl
theorem lpE_n {s:St}{e:Env}{k:Nat}{v:Int}(h:¬v=0):lpE s e k v=some (.ret,[(k,.int .i64 v)],s):=if_neg h
def lpX (i:Nat)(s:St)(e:Env)(k:Nat)(v:Int):Option (VX×Env×St):=if v=0 then some (.exit i,e,s) else some (.ret,[(k,.int .i64 v)],s)
theorem lpX_ite {i:Nat}{s:St}{e:Env}{k:Nat}{a b:Int}{c:Prop}[Decidable c]:lpX i s e k (if c then a else b)=if c then lpX i s e k a else lpX i s e k b:=by split<;>rfl
theorem lpX_0 {i:Nat}{s:St}{e:Env}{k:Nat}:lpX i s e k 0=some (.exit i,e,s):=idq rfl
theorem lpX_n {i:Nat}{s:St}{e:Env}{k:Nat}{v:Int}(h:¬v=0):lpX i s e k v=some (.ret,[(k,.int .i64 v)],s):=if_neg h
attribute [simp] lpX_0 lpX_n
attribute [push_cast] lpX_ite lpX_0 lpX_n
def lpI (s:St)(e:Env)(k:Nat)(v:Int):Option (VX×Env×St):=if v=-1 then some (.exit 0,e,s) else some (.ret,[(k,.int .i64 v)],s)
theorem lpI_ite {s:St}{e:Env}{k:Nat}{a b:Int}{c:Prop}[Decidable c]:lpI s e k (if c then a else b)=if c then lpI s e k a else lpI s e k b:=by split<;>rfl
theorem lpI_n {s:St}{e:Env}{k j:Nat}:lpI s e k (j:Int)=some (.ret,[(k,.int .i64 j)],s):=if_neg (by omega)
theorem lpI_1 {s:St}{e:Env}{k:Nat}:lpI s e k (-1)=some (.exit 0,e,s):=idq rfl
def lpB (s:St)(e:Env)(k:Nat)(v b:Bool):Option (VX×Env×St):=if v=true then some (.ret,[(k,.bool b)],s) else some (.exit 0,e,s)
theorem lpB_ite {s:St}{e:Env}{k:Nat}{a b d:Bool}{c:Prop}[Decidable c]:lpB s e k (if c then a else b) d=if c then lpB s e k a d else lpB s e k b d:=by split<;>rfl
theorem lpB_t {s:St}{e:Env}{k:Nat}{d:Bool}:lpB s e k true d=some (.ret,[(k,.bool d)],s):=idq rfl
theorem lpB_f {s:St}{e:Env}{k:Nat}{d:Bool}:lpB s e k false d=some (.exit 0,e,s):=idq rfl
theorem lps:(∀{s:St}{e:Env}{k:Nat}{a b:Int}{c:Prop} [Decidable c],lpE s e k (if c then a else b)=if c then lpE s e k a else lpE s e k b)∧(∀{s:St}{e:Env}{k:Nat},lpE s e k 0=some (.exit 0,e,s))∧(∀{s:St}{e:Env}{k:Nat}{v:Int},¬v=0→lpE s e k v=some (.ret,[(k,.int .i64 v)],s)) ∧
 (∀{i:Nat}{s:St}{e:Env}{k:Nat}{a b:Int}{c:Prop} [Decidable c],lpX i s e k (if c then a else b)=if c then lpX i s e k a else lpX i s e k b)∧(∀{i:Nat}{s:St}{e:Env}{k:Nat},lpX i s e k 0=some (.exit i,e,s))∧(∀{i:Nat}{s:St}{e:Env}{k:Nat}{v:Int},¬v=0→lpX i s e k v=some (.ret,[(k,.int .i64 v)],s)) ∧
 (∀{s:St}{e:Env}{k:Nat}{a b:Int}{c:Prop} [Decidable c],lpI s e k (if c then a else b)=if c then lpI s e k a else lpI s e k b)∧(∀{s:St}{e:Env}{k j:Nat},lpI s e k (j:Int)=some (.ret,[(k,.int .i64 j)],s))∧(∀{s:St}{e:Env}{k:Nat},lpI s e k (-1)=some (.exit 0,e,s)) ∧
 (∀{s:St}{e:Env}{k:Nat}{a b d:Bool}{c:Prop} [Decidable c],lpB s e k (if c then a else b) d=if c then lpB s e k a d else lpB s e k b d)∧(∀{s:St}{e:Env}{k:Nat}{d:Bool},lpB s e k true d=some (.ret,[(k,.bool d)],s))∧(∀{s:St}{e:Env}{k:Nat}{d:Bool},lpB s e k false d=some (.exit 0,e,s)) :=
 ⟨lpE_ite,lpE_0,fun h=>lpE_n h,lpX_ite,lpX_0,fun h=>lpX_n h,lpI_ite,lpI_n,lpI_1,lpB_ite,lpB_t,lpB_f⟩
theorem iw1 {j:Nat}(h:j<140737488355328):IntKind.i64.wrap ((j:Int)+1)=((j+1:Nat):Int):=iwrap (by omega) (by omega)
attribute [push_cast] eq_self iff_self
attribute [simp] V.bd V.bdL bdL_map'
theorem ite0 {v:Int}:(if v=0 then 0 else v)=v:=by split<;>simp_all
theorem ite1 {v:Int}:(if v=-1 then -1 else v)=v:=by split<;>simp_all
attribute [simp] lpE_0 lpE_n lpI_n lpI_1 lpB_t lpB_f
theorem ite0' {v:Int}:(if ¬v=0 then v else 0)=v:=by split<;>simp_all
attribute [push_cast] ite0' lpE_ite lpE_0 lpE_n lpI_ite lpI_n lpI_1 lpB_ite lpB_t lpB_f ite0 ite1
theorem bdL_app {n:Nat}{a b:List V}:V.bdL n (a++b)=(V.bdL n a&&V.bdL n b):=by
 induction a with
 |nil=>rfl
 |cons x r ih=>simp only[List.cons_append,V.bdL,ih,Bool.and_assoc]
theorem lt_irr {n:Nat}:(n<n)=False:=eq_false (Nat.lt_irrefl n)
attribute [push_cast] bdL_app lt_irr
theorem ne_1a {n:Nat}:(n+1=n)=False:=eq_false (by omega)
theorem ne_1b {n:Nat}:(n=n+1)=False:=eq_false (by omega)
theorem ne_2a {n:Nat}:(n+1+1=n)=False:=eq_false (by omega)
theorem ne_2b {n:Nat}:(n=n+1+1)=False:=eq_false (by omega)
theorem ne_3a {n:Nat}:(n+1+1+1=n)=False:=eq_false (by omega)
theorem ne_3b {n:Nat}:(n=n+1+1+1)=False:=eq_false (by omega)
theorem ne_4a {n:Nat}:(n+1+1+1+1=n)=False:=eq_false (by omega)
theorem ne_4b {n:Nat}:(n=n+1+1+1+1)=False:=eq_false (by omega)
theorem ne_5a {n:Nat}:(n+1+1+1+1+1=n)=False:=eq_false (by omega)
theorem ne_5b {n:Nat}:(n=n+1+1+1+1+1)=False:=eq_false (by omega)
theorem ne_6a {n:Nat}:(n+1+1+1+1+1+1=n)=False:=eq_false (by omega)
theorem ne_6b {n:Nat}:(n=n+1+1+1+1+1+1)=False:=eq_false (by omega)
attribute [push_cast] ne_1a ne_1b ne_2a ne_2b ne_3a ne_3b ne_4a ne_4b ne_5a ne_5b ne_6a ne_6b
theorem nlt_1a {n:Nat}:(n+1<n)=False:=eq_false (by omega)
theorem nlt_1b {n:Nat}:(n<n+1)=True:=eq_true (by omega)
theorem nle_1b {n:Nat}:(n≤n+1)=True:=eq_true (by omega)
theorem nlt_2a {n:Nat}:(n+1+1<n)=False:=eq_false (by omega)
theorem nlt_2b {n:Nat}:(n<n+1+1)=True:=eq_true (by omega)
theorem nle_2b {n:Nat}:(n≤n+1+1)=True:=eq_true (by omega)
theorem nlt_3a {n:Nat}:(n+1+1+1<n)=False:=eq_false (by omega)
theorem nlt_3b {n:Nat}:(n<n+1+1+1)=True:=eq_true (by omega)
theorem nle_3b {n:Nat}:(n≤n+1+1+1)=True:=eq_true (by omega)
theorem nlt_4b {n:Nat}:(n<n+1+1+1+1)=True:=eq_true (by omega)
theorem nle_4b {n:Nat}:(n≤n+1+1+1+1)=True:=eq_true (by omega)
theorem nlt_5b {n:Nat}:(n<n+1+1+1+1+1)=True:=eq_true (by omega)
theorem nle_5b {n:Nat}:(n≤n+1+1+1+1+1)=True:=eq_true (by omega)
theorem nlt_6b {n:Nat}:(n<n+1+1+1+1+1+1)=True:=eq_true (by omega)
attribute [push_cast] nlt_1a nlt_1b nle_1b nlt_2a nlt_2b nle_2b nlt_3a nlt_3b nle_3b nlt_4b nle_4b nlt_5b nle_5b nlt_6b
end Go.Sha
