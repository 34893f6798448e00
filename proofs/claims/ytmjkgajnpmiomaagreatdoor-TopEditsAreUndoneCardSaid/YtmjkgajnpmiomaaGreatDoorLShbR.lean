/- Code. -/
import Derived.Test.YtmjkgajnpmiomaaGreatDoorLShbQ
set_option linter.unusedSimpArgs false
set_option linter.unusedVariables false
namespace Go.Sha
section
variable {P:Program}{N:Fr}
def seqPost (K:Env→St→Prop)(Q:Post):Post
 | .normal,env,st=>K env st
 |x,env,st=>Q x env st
def blockPost (id:Nat)(Q:Post):Post
 | .exit id',env,st=>if id'=id then Q .normal env st else Q (.exit id') env st
 |x,env,st=>Q x env st
theorem W_skip {env:Env}{st:St}{Q:Post}(h:Q .normal env st):W P N .skip env st Q :=
 fun w A a hs he hN hd=>wp_skip ⟨A,env,st,h,hs,he,hN,hd,Ext.refl w A⟩
theorem W_exit {id:Nat}{env:Env}{st:St}{Q:Post}(h:Q (.exit id) env st):W P N (.exit id) env st Q :=
 fun w A a hs he hN hd=>wp_exit ⟨A,env,st,h,hs,he,hN,hd,Ext.refl w A⟩
theorem W_ret {env:Env}{st:St}{Q:Post}(h:Q .ret env st):W P N .ret env st Q :=
 fun w A a hs he hN hd=>wp_ret ⟨A,env,st,h,hs,he,hN,hd,Ext.refl w A⟩
theorem W_seq {x y:Code}{env:Env}{st:St}{Q:Post}(h:W P N x env st (seqPost (fun e s=>W P N y e s Q) Q)):W P N (.seq x y) env st Q:=by
 intro w A a hs he hN hd
 refine wp_seq (Code.wp_mono (fun e a' w' hq=>?_) (h w A a hs he hN hd))
 cases e with
 |normal =>
  obtain⟨A',env',st',h1,h2,h3,h4,h5,h6⟩:=hq
  exact Code.wp_mono (lift_mono h6 (fun _ _ _ h=>h)) (h1 w' A' a' h2 h3 h4 h5)
 |exit id=>exact hq
 |goto l=>exact hq
 |ret=>exact hq
 |panic ch=>exact hq
 |outgrown=>exact hq
theorem W_cond {c:Operand}{x y:Code}{o:Opd}(ho:opdOf c=some o){env:Env}{st:St}{Q:Post}{t:Bool}(hc:o.get env=.bool t)(h1:t=true→W P N x env st Q)(h2:t=false→W P N y env st Q):W P N (.cond c x y) env st Q:=by
 intro w A a hs he hN hd
 have hr:=rep_get (w:=w) (A:=A) he ho
 rw[hc]at hr
 exact wp_cond_split hr.bool_inv (fun ht=>h1 ht w A a hs he hN hd) (fun ht=>h2 ht w A a hs he hN hd)
theorem W_block {id:Nat}{x:Code}{env:Env}{st:St}{Q:Post}(h:W P N x env st (blockPost id Q)):W P N (.block id x) env st Q:=by
 intro w A a hs he hN hd
 refine wp_block (Code.wp_mono (fun e a' w' hq=>?_) (h w A a hs he hN hd))
 cases e with
 |normal=>exact hq
 |exit id' =>
  simp only[Exit.inBlock]
  obtain⟨A',env',st',h1,h2,h3,h4,h5,h6⟩:=hq
  simp only[blockPost]at h1
  split
  ·rename_i e;rw[if_pos e]at h1;exact⟨A',env',st',h1,h2,h3,h4,h5,h6⟩
  ·rename_i e;rw[if_neg e]at h1;exact⟨A',env',st',h1,h2,h3,h4,h5,h6⟩
 |goto l=>exact hq
 |ret=>exact hq
 |panic ch=>exact hq
 |outgrown=>exact hq
theorem exists_least (p:Nat→Prop)(h:∃n,p n):∃n,p n∧∀m,p m→n≤m:=by
 obtain⟨n,hn⟩:=h
 induction n using Nat.strongRecOn with
 |_ n ih =>
  by_cases h':∃m,m<n∧p m
  ·obtain⟨m,h1,h2⟩:=h';exact ih m h1 h2
  ·exact⟨n,hn,fun m hm=>by rcases Nat.lt_or_ge m n with h|h;(exact absurd ⟨m,h,hm⟩ h');exact h⟩
def Again (nx:Nat)(I:Nat→Env→St→Prop)(n:Nat)(env:Env)(st:St):Prop:=∃m env' st',m<n∧I m env' st'∧WeakEnv nx env env'∧Weak nx st st'
theorem W_loop {x:Code}{env:Env}{st:St}{Q:Post}(I:Nat→Env→St→Prop)(nx:Nat)(hnx:st.nx≤nx)(hI:∀n e s,I n e s→s.nx=nx)(h0:∃n env' st',I n env' st'∧WeakEnv nx env env'∧Weak nx st st')
  (round:∀n e s,I n e s→W P N x e s (seqPost (Again nx I n) Q)):W P N (.loop x) env st Q:=by
 intro w A a hs he hN hd
 let Inv (n:Nat) (a':Act) (w':World):Prop:=∃A' e s,I n e s∧Sim w' A' s∧EnvSim w' A' a' e∧a'.tmps.size=N.n∧a'.defers=N.D∧Ext w A w' A'
 have hown0:∀b id,A.own b=some id→id<A.nx:=fun b id h=>(hs.ownlt b id h).2
 have μspec:∀(a':Act) (w':World),(∃n,Inv n a' w')→∃n,Inv n a' w'∧∀m,Inv m a' w'→n≤m:=fun a' w' h=>exists_least _ h
 let μ (a':Act) (w':World):Nat:=open Classical in if h:∃n,Inv n a' w' then Classical.choose (μspec a' w' h) else 0
 have μmin:∀a' w' n,Inv n a' w'→Inv (μ a' w') a' w'∧μ a' w'≤n:=by
  intro a' w' n hn
  have hex:∃n,Inv n a' w':=⟨n,hn⟩
  have hμ:μ a' w'=Classical.choose (μspec a' w' hex):=by simp only[μ];rw[dif_pos hex]
  obtain⟨h1,h2⟩:=Classical.choose_spec (μspec a' w' hex)
  rw[hμ]
  exact⟨h1,h2 n hn⟩
 refine wp_loop (fun a' w'=>∃n,Inv n a' w') μ ?_ ?_
 ·obtain⟨n,env',st',h1,h2,h3⟩:=h0
  exact⟨n,A.cut nx,env',st',h1,hs.cut h3,he.cut h2,hN,hd,(Ext.refl w A).cut hown0 (by rw[←hs.nx];exact hnx)⟩
 ·rintro a' w' ⟨n,hn⟩
  obtain⟨⟨A',e,s,q1,q2,q3,q4,q5,q6⟩,_⟩:=μmin a' w' n hn
  refine Code.wp_mono (fun ex a2 w2 hq=>?_) (round _ e s q1 w' A' a' q2 q3 q4 q5)
  cases ex with
  |normal =>
   obtain⟨A2,e2,s2,⟨m,e3,s3,r1,r2,r3,r4⟩,r5,r6,r7,r8,r9⟩:=hq
   have hinv:Inv m a2 w2:=⟨A2.cut nx,e3,s3,r2,r5.cut r4,r6.cut r3,r7,r8,(q6.trans r9).cut hown0 (by rw[←hs.nx];exact hnx)⟩
   have:=μmin a2 w2 m hinv
   exact⟨⟨m,hinv⟩,by omega⟩
  |exit id=>exact lift_mono q6 (fun _ _ _ h=>h) (.exit id) a2 w2 hq
  |goto l=>exact hq.elim
  |ret=>exact lift_mono q6 (fun _ _ _ h=>h) .ret a2 w2 hq
  |panic ch=>exact lift_mono q6 (fun _ _ _ h=>h) (.panic ch) a2 w2 hq
  |outgrown=>exact hq.elim
theorem W_mono {x:Code}{env:Env}{st:St}{Q Q':Post}(h:W P N x env st Q)(hq:∀x e s,Q x e s→Q' x e s):W P N x env st Q' :=
 fun w A a hs he hN hd=>Code.wp_mono (lift_mono (Ext.refl w A) hq) (h w A a hs he hN hd)
end
inductive Nd where
 |skip
 |reg (l:List Ins)
 |dreg (m:Nat) (l:List Ins)
 |sreg (m:Nat) (l:List Ins)
 |greg (fs:List (List Bool)) (l:List Ins)
 |seq (a b:Nat)
 |cond (c:Opd) (a b:Nat)
 |block (id a:Nat)
 |loop (a:Nat)
 |exit (id:Nat)
 |ret
 |bad
 deriving Inhabited
section
variable {P:Program}{N:Fr}
end
end Go.Sha
