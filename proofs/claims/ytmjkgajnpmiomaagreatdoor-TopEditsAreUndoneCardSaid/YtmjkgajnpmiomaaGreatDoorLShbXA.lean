/- The function that a program computes mee. -/
import Derived.Test.YtmjkgajnpmiomaaGreatDoorLShbX
set_option linter.unusedSimpArgs false
set_option linter.unusedVariables false
namespace Go.Sha
structure Sup {β:Type} (X:Nat→Option β) (x:Option β):Prop where
 mono:∀m r,X m=some r→X (m+1)=some r
 le:∀m r,X m=some r→x=some r
 up:∀r,x=some r→∃m,X m=some r
theorem Sup.mono' {β : Type}{X : Nat → Option β}{x : Option β}(h : Sup X x){m n : Nat}(hn : m ≤ n){r : β}(hr : X m = some r) : X n = some r := by
  induction n with
  | zero => have : m = 0 := by omega
            subst this; exact hr
  | succ n ih => rcases Nat.lt_or_ge n m with h' | h'
                 · have : m = n + 1 := by omega
                   subst this; exact hr
                 · exact h.mono n r (ih h')
theorem Sup.const {β:Type}(x:Option β):Sup (fun _=>x) x:=⟨fun _ _ h=>h,fun _ _ h=>h,fun _ h=>⟨0,h⟩⟩
theorem Sup.strict {β γ:Type}{A:Nat→Option β}{a:Option β}(hA:Sup A a){G:Nat→Option β→Option γ}{g:Option β→Option γ}(h0:∀m,G m none=none)(h1:g none=none)(h:∀z,Sup (fun m=>G m (some z)) (g (some z))) :
  Sup (fun m=>G m (A m)) (g a) where
 mono m r hr:=by
  cases e:A m with
  |none=>rw[e,h0]at hr;cases hr
  |some z=>rw[e]at hr;rw[hA.mono m z e];exact(h z).mono m r hr
 le m r hr:=by
  cases e:A m with
  |none=>rw[e,h0]at hr;cases hr
  |some z=>rw[e]at hr;rw[hA.le m z e];exact(h z).le m r hr
 up r hr:=by
  cases e:a with
  |none=>rw[e,h1]at hr;cases hr
  |some z =>
   rw[e]at hr
   obtain⟨m1,k1⟩:=hA.up z e
   obtain⟨m2,k2⟩:=(h z).up r hr
   exact⟨max m1 m2,by
    show G (max m1 m2) (A (max m1 m2))=_
    rw[hA.mono' (Nat.le_max_left _ _) k1];exact(h z).mono' (Nat.le_max_right _ _) k2⟩
theorem Sup.map {β γ:Type}{A:Nat→Option β}{a:Option β}(hA:Sup A a){g:Option β→Option γ}(h1:g none=none):Sup (fun m=>g (A m)) (g a) :=
 hA.strict (fun _=>h1) h1 (fun _=>.const _)
theorem Sup.lub {β : Type}{X : Nat → Option β}(hm : ∀ m r, X m = some r → X (m + 1) = some r) : Sup X (Sha.lub X) := by
  have mono' : ∀ {m n : Nat} {r : β}, m ≤ n → X m = some r → X n = some r := fun {m n r} h hr => by
    induction n with
    | zero => have : m = 0 := by omega
              subst this; exact hr
    | succ n ih => rcases Nat.lt_or_ge n m with h' | h'
                   · have : m = n + 1 := by omega
                     subst this; exact hr
                   · exact hm n r (ih h')
  refine ⟨hm, fun m r hr => ?_, fun r hr => lub_some hr⟩
  have hex : ∃ n b, X n = some b := ⟨m, r, hr⟩
  obtain ⟨b, hb⟩ := Classical.choose_spec hex
  have e : Sha.lub X = X (Classical.choose hex) := by unfold Sha.lub; rw [dif_pos hex]
  rw [e, hb]
  have k1 := mono' (Nat.le_max_left m (Classical.choose hex)) hr
  have k2 := mono' (Nat.le_max_right m (Classical.choose hex)) hb
  rw [k1] at k2; exact k2.symm
theorem Sup.unique {β:Type}{X:Nat→Option β}{x y:Option β}(h:Sup X x)(k:Sup X y):x=y:=by
 cases e:x with
 |none=>cases e':y with
  |none=>rfl
  |some r=>obtain⟨m,hm⟩:=k.up r e';rw[h.le m r hm]at e;cases e
 |some r=>obtain⟨m,hm⟩:=h.up r e;exact(k.le m r hm).symm
theorem Sup.tail {β:Type}{X:Nat→Option β}{x:Option β}(h:Sup X x):Sup (fun m=>X (m+1)) x :=
 ⟨fun m r hr=>h.mono _ r hr,fun m r hr=>h.le _ r hr,fun r hr=>by obtain⟨m,hm⟩:=h.up r hr;exact⟨m,h.mono m r hm⟩⟩
section
variable {E:Nat→EvF}{F:EvF} (hE:(∀m,(E m).raw=F.raw)∧∀k a s,Sup (fun m=>E m k a s) (F k a s))
theorem guardR_sup {A B:Nat→Rc}{a b:Rc}(h1:Sup A a)(h2:Sup B b){g:Option Bool}:Sup (fun m=>guardR (A m) (B m) g) (guardR a b g):=by
 cases g with
 |none=>exact .const _
 |some t=>cases t<;>simp only[guardR]<;>simp only[Bool.false_eq_true,if_false,if_true]<;>assumption
theorem gd_sup {A B:Nat→Env→Rc}{a b:Env→Rc}(h1:∀e,Sup (fun m=>A m e) (a e))(h2:∀e,Sup (fun m=>B m e) (b e)){j:Nat}{t:Bool}{env:Env}{o:Option V}:Sup (fun m=>gd (A m) (B m) j t env o) (gd a b j t env o):=by
 unfold gd
 split
 ·cases t<;>split<;>simp only[Bool.false_eq_true,if_false,if_true]<;>first|exact h1 _|exact h2 _
 ·exact h2 _
 ·exact .const _
include hE
theorem callE_sup {st:St}{args:List V}{f:V}:Sup (fun m=>callE (E m) st args f) (callE F st args f):=by
 unfold callE
 split
 ·simp only[hE.1];exact hE.2 _ _ _
 ·exact .const _
theorem insE_sup {env:Env}{st:St}{K:Nat→V→St→Rc}{k:V→St→Rc}(hk:∀v s,Sup (fun m=>K m v s) (k v s)){op:SOp}:Sup (fun m=>insE (E m) env st (K m) op) (insE F env st k op):=by
 cases op
 case call f args =>
  simp only[insE]
  refine(callE_sup hE).strict (fun _=>rfl) rfl (fun z=>?_)
  obtain⟨z,s⟩:=z
  cases z with
  |ret v=>exact hk v s
  |pan v=>exact .const _
 case panic x=>exact .const _
 case nilk ne x =>
  simp only[insE]
  cases x.get env<;>try exact .const _
  ·exact hk _ _
  ·rename_i l;cases l<;>first|exact .const _|exact hk _ _
  ·rename_i l;cases l<;>first|exact .const _|exact hk _ _
  ·rename_i id n
   cases n with
   |zero=>exact .const _
   |succ n =>
    simp only[nilE]
    split
    ·split
     ·exact hk _ _
     ·exact .const _
    ·exact .const _
 all_goals
  simp only[insE]
  generalize stv _ env st=z
  cases z with
  |none=>exact .const _
  |some z=>exact hk z.1 z.2
theorem evOps_sup:∀{l:List Ins}{env:Env}{st:St},Sup (fun m=>evOps (E m) l env st) (evOps F l env st)
 |[],env,st=>.const _
 |⟨d,op,none⟩::r,env,st=>by
  simp only[evOps]
  exact insE_sup hE fun v s=>evOps_sup
 |⟨d,op,some (j,b)⟩::r,env,st=>by
  simp only[evOps]
  exact gd_sup (fun e=>insE_sup hE fun v s=>evOps_sup) fun e=>evOps_sup
theorem evOne_sup {i:Ins}{env:Env}{st:St}{K:Nat→Env→St→Rc}{k:Env→St→Rc}(hk:∀e s,Sup (fun m=>K m e s) (k e s)):Sup (fun m=>evOne (E m) i env st (K m)) (evOne F i env st k):=by
 unfold evOne
 exact guardR_sup (insE_sup hE fun v s=>hk _ _) (hk _ _)
theorem insQ_sup {env:Env}{st:St}{K:Nat→V→Rc}{k:V→Rc}(hk:∀v,Sup (fun m=>K m v) (k v)){op:SOp}:Sup (fun m=>insQ (E m) env st (K m) op) (insQ F env st k op):=by
 cases op
 case call f args =>
  simp only[insQ]
  refine(callE_sup hE).strict (fun _=>rfl) rfl (fun z=>?_)
  obtain⟨z,s⟩:=z
  cases z with
  |ret v =>
   simp only[quietR]
   split
   ·exact hk v
   ·exact .const _
  |pan v=>exact .const _
 all_goals
  simp only[insQ]
  generalize evq _ env st=z
  cases z with
  |none=>exact .const _
  |some z=>exact hk z
theorem evQ_sup {K:Nat→List V→Env→Rc}{k:List V→Env→Rc}(hk:∀v e,Sup (fun m=>K m v e) (k v e)){st:St}:∀{l:List Ins}{env:Env}{acc:List V},Sup (fun m=>evQ (E m) (K m) l env st acc) (evQ F k l env st acc)
 |[],env,acc=>hk _ _
 |⟨d,op,none⟩::r,env,acc=>by
  simp only[evQ]
  exact insQ_sup hE fun v=>evQ_sup hk
 |⟨d,op,some (j,b)⟩::r,env,acc=>by
  simp only[evQ]
  exact gd_sup (fun e=>insQ_sup hE fun v=>evQ_sup hk) fun e=>evQ_sup hk
theorem evQ1_sup {i:Ins}{env:Env}{st:St}{K:Nat→Env→Rc}{k:Env→Rc}(hk:∀e,Sup (fun m=>K m e) (k e)):Sup (fun m=>evQ1 (E m) i env st (K m)) (evQ1 F i env st k):=by
 unfold evQ1
 exact guardR_sup (insQ_sup hE fun v=>hk _) (hk _)
theorem sameE_sup {d:Option Nat}{v:V}{env:Env}{K:Nat→Rc}{k:Rc}(hk:Sup K k):Sup (fun m=>sameE d v env (K m)) (sameE d v env k):=by
 have _:=hE
 cases d with
 |none=>exact hk
 |some s =>
  simp only[sameE,sameO]
  split
  ·exact hk
  ·exact .const _
theorem reE_sup {K:Nat→Rc}{k:Rc}(hk:Sup K k){st:St}:∀{l:List Ran},Sup (fun m=>reE (E m) st (K m) l) (reE F st k l)
 |[]=>hk
 |x::r=>by simp only[reE];exact evQ1_sup hE fun e=>sameE_sup hE (reE_sup hk)
theorem lateE_sup {K:Nat→Rc}{k:Rc}(hk:Sup K k){i:Ins}{env:Env}{v:V}:∀{l:List St},Sup (fun m=>lateE (E m) i env v (K m) l) (lateE F i env v k l)
 |[]=>hk
 |x::r=>by simp only[lateE];exact evQ1_sup hE fun e=>sameE_sup hE (lateE_sup hk)
theorem normR_sup {K:Nat→Env→St→Rc}{k:Env→St→Rc}(hk:∀e s,Sup (fun m=>K m e s) (k e s)){A:Nat→Rc}{a:Rc}(hA:Sup A a):Sup (fun m=>normR (K m) (A m)) (normR k a) :=
 hA.strict (fun _=>rfl) rfl (fun z=>by
  have _:=hE
  obtain⟨x,e,s⟩:=z
  cases x<;>first|exact hk e s|exact .const _)
theorem seqR_sup {K:Nat→Env→St→Rc}{k:Env→St→Rc}(hk:∀e s,Sup (fun m=>K m e s) (k e s)){A:Nat→Rc}{a:Rc}(hA:Sup A a):Sup (fun m=>seqR (K m) (A m)) (seqR k a) :=
 hA.strict (fun _=>rfl) rfl (fun z=>by
  have _:=hE
  obtain⟨x,e,s⟩:=z
  cases x<;>first|exact hk e s|exact .const _)
theorem evG_sup {U D:List Nat}:∀{l:List Ins}{fs:List (List Bool)}{env:Env}{st:St}{h:List Ran}{hs:List St},Sup (fun m=>evG (E m) U D l fs env st h hs) (evG F U D l fs env st h hs)
 |[],fs,env,st,h,hs=>.const _
 |i::r,fs,env,st,h,hs=>by
  unfold evG
  split
  ·exact evQ1_sup hE fun e=>lateE_sup hE evG_sup
  ·exact normR_sup hE (fun e s=>reE_sup hE evG_sup) (evOne_sup hE fun e s=>.const _)
omit hE in
theorem frzR_sup {K:Nat→Env→St→Rc}{k:Env→St→Rc}(hk:∀e s,Sup (fun m=>K m e s) (k e s)):∀{l:List Nat}{env:Env}{st:St},Sup (fun m=>frzR (K m) l env st) (frzR k l env st)
 |[],env,st=>hk env st
 |t::r,env,st=>by
  unfold frzR
  split
  ·split
   ·exact frzR_sup hk
   ·exact frzR_sup hk
  ·exact frzR_sup hk
omit hE in
theorem ownR_sup {K:Nat→Env→St→Rc}{k:Env→St→Rc}(hk:∀e s,Sup (fun m=>K m e s) (k e s)):∀{l:List (Nat×Nat×Nat)}{env:Env}{st:St},Sup (fun m=>ownR (K m) l env st) (ownR k l env st)
 |[],env,st=>hk env st
 |(t,e,es)::r,env,st=>by
  unfold ownR
  split
  ·split<;>exact ownR_sup hk
  ·exact ownR_sup hk
omit hE in
theorem seqR_sup' {K:Nat→Env→St→Rc}{k:Env→St→Rc}(hk:∀e s,Sup (fun m=>K m e s) (k e s)){A:Nat→Rc}{a:Rc}(hA:Sup A a):Sup (fun m=>seqR (K m) (A m)) (seqR k a) :=
 hA.strict (fun _=>rfl) rfl (fun z=>by
  obtain⟨x,e,s⟩:=z
  cases x<;>first|exact hk e s|exact .const _)
omit hE in
theorem evL_sup {f:Nat→Env→St→Rc}{g:Env→St→Rc}(hf:∀e s,Sup (fun m=>f m e s) (g e s)){lv:List Nat}{nx:Nat}:∀(n:Nat) {env:Env}{st:St},Sup (fun m=>evL (f m) lv nx n env st) (evL g lv nx n env st)
 |0,env,st=>.const _
 |n+1,env,st=>by simp only[evL];exact seqR_sup' (fun e s=>evL_sup hf n) ((hf env st).map rfl)
theorem evC_sup:∀(n:Nat) {c:Cd}{env:Env}{st:St},Sup (fun m=>evC (E m) n c env st) (evC F n c env st)
 |0,c,env,st=>by simp only[evC];exact .const _
 |n+1,c,env,st=>by
  cases c with
  |skip=>simp only[evC];exact .const _
  |exit lv id=>simp only[evC];exact .const _
  |ret lv=>simp only[evC];exact .const _
  |bad=>simp only[evC];exact .const _
  |reg l=>simp only[evC];exact evOps_sup hE
  |dreg m l=>simp only[evC];exact evQ_sup hE fun v e=>evOps_sup hE
  |greg U D fs l=>simp only[evC];exact evG_sup hE
  |seq a b=>simp only[evC];exact seqR_sup hE (fun e s=>evC_sup n) (evC_sup n)
  |join lv a b=>simp only[evC];exact seqR_sup hE (fun e s=>evC_sup n) ((evC_sup n).map rfl)
  |cond o a b =>
   simp only[evC]
   cases o.get env<;>try exact .const _
   rename_i t
   cases t<;>simp only[condR]<;>simp only[Bool.false_eq_true,if_false,if_true]<;>exact evC_sup n
  |block id a =>
   simp only[evC]
   exact(evC_sup n).map rfl
  |loop lv ow a=>simp only[evC];exact ownR_sup fun e s=>evL_sup (fun e s=>evC_sup n) n
  |frz l a=>simp only[evC];exact frzR_sup fun e s=>evC_sup n
end
section
variable {E:EvF}
theorem evL_le {f g:Env→St→Rc}(hf:∀e s r,f e s=some r→g e s=some r){lv:List Nat}{nx:Nat}:∀(n m:Nat) {env:Env}{st:St}{r},n≤m→evL f lv nx n env st=some r→evL g lv nx m env st=some r
 |0,m,env,st,r,_,h=>by simp only[evL]at h;cases h
 |n+1,0,env,st,r,hm,h=>by omega
 |n+1,m+1,env,st,r,hm,h=>by
  rw[evL]at h ⊢
  cases e:f env st with
  |none=>rw[e]at h;cases h
  |some z =>
   obtain⟨x,e1,s1⟩:=z
   rw[e]at h;rw[hf _ _ _ e]
   cases x<;>first|exact evL_le hf n m (by omega) h|exact h
theorem evC_fuel:∀(n:Nat) {c:Cd}{env:Env}{st:St}{r},evC E n c env st=some r→evC E (n+1) c env st=some r
 |0,c,env,st,r,h=>by simp only[evC]at h;cases h
 |n+1,c,env,st,r,h=>by
  have ih:∀{c:Cd}{env:Env}{st:St}{r},evC E n c env st=some r→evC E (n+1) c env st=some r:=fun h=>evC_fuel n h
  cases c with
  |skip=>simp only[evC]at h ⊢;exact h
  |exit lv id=>simp only[evC]at h ⊢;exact h
  |ret lv=>simp only[evC]at h ⊢;exact h
  |bad=>simp only[evC]at h ⊢;exact h
  |reg l=>simp only[evC]at h ⊢;exact h
  |dreg m l=>simp only[evC]at h ⊢;exact h
  |greg U D fs l=>simp only[evC]at h ⊢;exact h
  |seq a b =>
   rw[evC]at h ⊢
   cases e:evC E n a env st with
   |none=>rw[e]at h;cases h
   |some z =>
    obtain⟨x,e1,s1⟩:=z
    rw[e]at h;rw[ih e]
    cases x<;>first|exact ih h|exact h
  |join lv a b =>
   rw[evC]at h ⊢
   cases e:evC E n a env st with
   |none=>rw[e]at h;cases h
   |some z =>
    obtain⟨x,e1,s1⟩:=z
    rw[e]at h;rw[ih e]
    cases x<;>first|exact ih h|exact h
  |cond o a b =>
   rw[evC]at h ⊢
   cases ho:o.get env<;>rw[ho]at h<;>simp only[condR]at h ⊢<;>try (cases h;done)
   split at h
   ·rename_i e;rw[if_pos e];exact ih h
   ·rename_i e;rw[if_neg e];exact ih h
  |block id a =>
   rw[evC]at h ⊢
   cases e:evC E n a env st with
   |none=>rw[e]at h;cases h
   |some z=>rw[e]at h;rw[ih e];exact h
  |loop lv ow a =>
   rw[evC]at h ⊢
   have hO:∀{l:List (Nat×Nat×Nat)}{env:Env}{st:St}{K K':Env→St→Rc} (hk:∀e s r,K e s=some r→K' e s=some r) {r},ownR K l env st=some r→ownR K' l env st=some r:=fun {l}=>by
    induction l with
    |nil=>intro env st K K' hk r h;exact hk _ _ _ h
    |cons p l ihl =>
     obtain⟨t,e,es⟩:=p
     intro env st K K' hk r h
     unfold ownR at h ⊢
     split at h
     ·split at h<;>rename_i hw<;>(first|rw[if_pos hw]|rw[if_neg hw])<;>exact ihl hk h
     ·exact ihl hk h
   exact hO (fun e s r h=>evL_le (fun e s r h=>ih h) n (n+1) (by omega) h) h
  |frz l a =>
   rw[evC]at h ⊢
   have hO:∀{l:List Nat}{env:Env}{st:St}{K K':Env→St→Rc} (hk:∀e s r,K e s=some r→K' e s=some r) {r},frzR K l env st=some r→frzR K' l env st=some r:=fun {l}=>by
    induction l with
    |nil=>intro env st K K' hk r h;exact hk _ _ _ h
    |cons p l ihl =>
     intro env st K K' hk r h
     unfold frzR at h ⊢
     split at h
     ·split at h
      ·exact ihl hk h
      ·exact ihl hk h
     ·exact ihl hk h
   exact hO (fun e s r h=>ih h) h
end
variable {P:Program}{H:EvF}{c a b:Cd}{env:Env}{st:St}
theorem evD_sup {E:EvF}:Sup (fun n=>evC E n c env st) (evD E c env st):=Sup.lub (fun m r h=>evC_fuel m h)
theorem evF_mut:∀n,(evF P H n).raw=H.raw
 |0=>by simp only[evF]
 |n+1=>by simp only[evF]
theorem evD_sup' {E:Nat→EvF}{F:EvF}(hE:(∀m,(E m).raw=F.raw)∧∀k a s,Sup (fun m=>E m k a s) (F k a s)):Sup (fun m=>evD (E m) c env st) (evD F c env st) where
 mono m r h:=by
  obtain⟨n,hn⟩:=evD_sup.up r h
  exact evD_sup.le n r ((evC_sup hE n).mono m r hn)
 le m r h:=by
  obtain⟨n,hn⟩:=evD_sup.up r h
  exact evD_sup.le n r ((evC_sup hE n).le m r hn)
 up r h:=by
  obtain⟨n,hn⟩:=evD_sup.up r h
  obtain⟨m,hm⟩:=(evC_sup hE n).up r hn
  exact⟨m,evD_sup.le n r hm⟩
theorem endF_sup {F:Fx}{args:List V}{f:Nat→Env→St→Rc}{g:Env→St→Rc}(hf:∀e s,Sup (fun m=>f m e s) (g e s)):Sup (fun m=>endF F args st (f m)) (endF F args st g):=by
 unfold endF
 split
 ·split
  ·exact(((hf _ _).map (g:=rawE F.res) rfl).map (g:=shutR st) rfl)
  ·exact(((hf _ _).map (g:=rawE F.res) rfl).map (g:=openR st.nx) rfl)
 ·exact .const _
theorem evF_fuel:∀n k args st r,evF P H n k args st=some r→evF P H (n+1) k args st=some r:=by
 intro n
 induction n with
 |zero=>intro k args st r h;simp only[evF]at h;cases h
 |succ n ih =>
  intro k args st r h
  rw[evF]at h ⊢
  dsimp only at h ⊢
  cases e:H k args st with
  |some z=>rw[e]at h;exact h
  |none =>
   rw[e]at h
   dsimp only at h ⊢
   cases hF:compF P k with
   |none=>rw[hF]at h;cases h
   |some F =>
    rw[hF]at h
    dsimp only at h ⊢
    have hS:(∀m,(if m=0 then evF P H n else evF P H (n+1)).raw=(evF P H (n+1)).raw)∧∀k a s,Sup (fun m=>(if m=0 then evF P H n else evF P H (n+1)) k a s) (evF P H (n+1) k a s):=⟨fun m=>by split<;>simp only[evF_mut],fun k a s =>
     ⟨fun m r hr=>by
      rw[if_neg (by omega)]
      split at hr
      ·exact ih _ _ _ _ hr
      ·exact hr,fun m r hr=>by
      split at hr
      ·exact ih _ _ _ _ hr
      ·exact hr,fun r hr=>⟨1,hr⟩⟩⟩
    have:=(endF_sup (F:=F) (args:=args) (st:=st) fun e s=>evD_sup' (c:=F.c) (env:=e) (st:=s) hS).le 0 r (by simpa using h)
    exact this
theorem run_sup (k:FuncId)(args:List V)(st:St):Sup (fun n=>evF P H n k args st) (run P H k args st):=Sup.lub (fun m r h=>evF_fuel m _ _ _ _ h)
theorem run_H {k:FuncId}{args:List V}{r:VRes×St}(h:H k args st=some r):run P H k args st=some r :=
 (run_sup k args st).le 1 r (by simp only[evF,h])
theorem run_eq {k:FuncId}{args:List V}{F:Fx}(hH:H k args st=none)(hF:compF P k=some F):run P H k args st=endF F args st (runC P H F.c):=by
 have h1:Sup (fun n=>evF P H (n+1) k args st) (endF F args st (runC P H F.c)):=by
  have e:(fun n=>evF P H (n+1) k args st)=fun n=>endF F args st (evD (evF P H n) F.c):=by
   funext n;simp only[evF,hH,hF]
  rw[e]
  exact endF_sup fun e s=>evD_sup' ⟨fun m=>evF_mut m,fun k a s=>run_sup k a s⟩
 exact(run_sup k args st).tail.unique h1
theorem runC_tail (k:Rc)(h:Sup (fun n=>evC (run P H) (n+1) c env st) k):runC P H c env st=k:=evD_sup.tail.unique h
theorem runC_skip:runC P H .skip env st=some (.normal,env,st):=runC_tail _ (by simp only[evC];exact .const _)
theorem runC_exit {lv:List Nat}{id:Nat}:runC P H (.exit lv id) env st=some (.exit id,restr lv env,st):=runC_tail _ (by simp only[evC];exact .const _)
theorem runC_ret {lv:List Nat}:runC P H (.ret lv) env st=some (.ret,restr lv env,st):=runC_tail _ (by simp only[evC];exact .const _)
theorem runC_reg {l:List Ins}:runC P H (.reg l) env st=evOps (run P H) l env st:=runC_tail _ (by simp only[evC];exact .const _)
theorem runC_dreg {m:Nat}{l:List Ins}:runC P H (.dreg m l) env st=evQ (run P H) (fun _ env'=>evOps (run P H) (l.drop m) env' st) (l.take m) env st []:=runC_tail _ (by simp only[evC];exact .const _)
theorem runC_greg {U D:List Nat}{fs:List (List Bool)}{l:List Ins}:runC P H (.greg U D fs l) env st=evG (run P H) U D l fs env st [] []:=runC_tail _ (by simp only[evC];exact .const _)
theorem runC_seq:runC P H (.seq a b) env st=seqR (runC P H b) (runC P H a env st):=runC_tail _ (by simp only[evC];exact seqR_sup' (fun _ _=>evD_sup) evD_sup)
theorem runC_join {lv:List Nat}:runC P H (.join lv a b) env st=seqR (runC P H b) (restR lv (runC P H a env st)):=runC_tail _ (by simp only[evC];exact seqR_sup' (fun _ _=>evD_sup) (evD_sup.map rfl))
theorem runC_cond {o:Opd}:runC P H (.cond o a b) env st=condR (runC P H a env st) (runC P H b env st) (o.get env):=runC_tail _ (by
 simp only[evC]
 cases o.get env<;>try exact .const _
 rename_i t
 cases t<;>simp only[condR]<;>simp only[Bool.false_eq_true,if_false,if_true]<;>exact evD_sup)
theorem runC_block {id:Nat}:runC P H (.block id a) env st=blockR id (runC P H a env st):=runC_tail _ (by simp only[evC];exact evD_sup.map rfl)
theorem runL_sup {lv:List Nat}{nx:Nat}:Sup (fun n=>evL (evC (run P H) n c) lv nx n env st) (runL P H lv nx c env st):=Sup.lub (fun m r h=>evL_le (fun _ _ _ h=>evC_fuel m h) m (m+1) (by omega) h)
theorem runC_frz {l:List Nat}:runC P H (.frz l a) env st=frzR (runC P H a) l env st:=runC_tail _ (by
 simp only[evC]
 exact frzR_sup fun e s=>evD_sup)
theorem runC_loop {lv:List Nat}{ow:List (Nat×Nat×Nat)}:runC P H (.loop lv ow a) env st=ownR (fun e s=>runL P H lv s.nx a (restr lv e) s) ow env st:=runC_tail _ (by
 simp only[evC]
 exact ownR_sup fun e s=>runL_sup)
theorem runL_eq {lv:List Nat}{nx:Nat}:runL P H lv nx c env st=seqR (fun e s=>runL P H lv nx c (restr lv e) (headS nx (restr lv e) s)) (cutR nx (runC P H c env st)):=by
 refine runL_sup.tail.unique ?_
 simp only[evL]
 refine seqR_sup' (fun e s=>?_) (evD_sup.tail.map rfl)
 exact⟨fun m r h=>evL_le (fun _ _ _ h=>evC_fuel (m+1) h) m (m+1) (by omega) h,fun m r h=>runL_sup.le (m+1) r (evL_le (fun _ _ _ h=>h) m (m+1) (by omega) h),fun r h=>by
  obtain⟨m,hm⟩:=runL_sup.up r h
  exact⟨m,evL_le (fun _ _ _ h=>evC_fuel m h) m m (Nat.le_refl _) hm⟩⟩
end Go.Sha
