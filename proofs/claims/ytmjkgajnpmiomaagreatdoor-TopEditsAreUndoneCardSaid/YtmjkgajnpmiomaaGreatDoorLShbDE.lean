/- Equality of shadow values and states is . -/
import Derived.Test.YtmjkgajnpmiomaaGreatDoorLShbA
set_option linter.unusedSimpArgs false
set_option linter.unusedVariables false
namespace Go.Sha
mutual
def V.beq:V→V→Bool
 | .und,.und=>true
 | .bool a,.bool b=>decide (a=b)
 | .int k n,.int l m=>decide (k=l)&&decide (n=m)
 | .str s,.str t=>decide (s=t)
 | .nilp,.nilp=>true
 | .ptr a b,.ptr c d=>decide (a=c)&&decide (b=d)
 | .nils,.nils=>true
 | .sl a,.sl b=>V.beqL a b
 | .clip a,.clip b=>V.beqL a b
 | .osl a b,.osl c d=>decide (a=c)&&decide (b=d)
 | .ep x a,.ep y b=>V.beq x y&&decide (a=b)
 | .op a b c d e,.op a' b' c' d' e'=>decide (a=a')&&(decide (b=b')&&(decide (c=c')&&(decide (d=d')&&decide (e=e'))))
 | .win a b c d e,.win a' b' c' d' e'=>decide (a=a')&&(decide (b=b')&&(decide (c=c')&&(decide (d=d')&&decide (e=e'))))
 | .agg a,.agg b=>V.beqL a b
 | .tup a,.tup b=>V.beqL a b
 | .fn f a b,.fn g c d=>decide (f=g)&&(V.beqL a c&&V.beqL b d)
 | .nilf,.nilf=>true
 | .iface t v,.iface u w=>decide (t=u)&&V.beq v w
 | .nili,.nili=>true
 | .mp a,.mp b=>decide (a=b)
 | .nilm,.nilm=>true
 | .mpc a b,.mpc c d=>V.beqL a c&&V.beqL b d
 |_,_=>false
def V.beqL:List V→List V→Bool
 |[],[]=>true
 |x::a,y::b=>V.beq x y&&V.beqL a b
 |_,_=>false
end
mutual
theorem V.beq_eq:∀(a b:V),V.beq a b=true→a=b
 | .und,b,h=>by cases b<;>simp[V.beq]at h ⊢
 | .bool _,b,h=>by cases b<;>simp[V.beq]at h ⊢;exact h
 | .int _ _,b,h=>by cases b<;>simp[V.beq]at h ⊢;exact h
 | .str _,b,h=>by cases b<;>simp[V.beq]at h ⊢;exact h
 | .nilp,b,h=>by cases b<;>simp[V.beq]at h ⊢
 | .ptr _ _,b,h=>by cases b<;>simp[V.beq]at h ⊢;exact h
 | .nils,b,h=>by cases b<;>simp[V.beq]at h ⊢
 | .sl x,b,h=>by cases b<;>simp[V.beq]at h ⊢;exact V.beqL_eq _ _ h
 | .clip x,b,h=>by cases b<;>simp[V.beq]at h ⊢;exact V.beqL_eq _ _ h
 | .osl _ _,b,h=>by cases b<;>simp[V.beq]at h ⊢;exact h
 | .ep x _,b,h=>by cases b<;>simp[V.beq]at h ⊢;exact⟨V.beq_eq _ _ h.1,h.2⟩
 | .op _ _ _ _ _,b,h=>by cases b<;>simp[V.beq]at h ⊢;exact h
 | .win _ _ _ _ _,b,h=>by cases b<;>simp[V.beq]at h ⊢;exact h
 | .agg x,b,h=>by cases b<;>simp[V.beq]at h ⊢;exact V.beqL_eq _ _ h
 | .tup x,b,h=>by cases b<;>simp[V.beq]at h ⊢;exact V.beqL_eq _ _ h
 | .fn _ x y,b,h=>by cases b<;>simp[V.beq]at h ⊢;exact⟨h.1,V.beqL_eq _ _ h.2.1,V.beqL_eq _ _ h.2.2⟩
 | .nilf,b,h=>by cases b<;>simp[V.beq]at h ⊢
 | .iface _ x,b,h=>by cases b<;>simp[V.beq]at h ⊢;exact⟨h.1,V.beq_eq _ _ h.2⟩
 | .nili,b,h=>by cases b<;>simp[V.beq]at h ⊢
 | .mp _,b,h=>by cases b<;>simp[V.beq]at h ⊢;exact h
 | .nilm,b,h=>by cases b<;>simp[V.beq]at h ⊢
 | .mpc x y,b,h=>by cases b<;>simp[V.beq]at h ⊢;exact⟨V.beqL_eq _ _ h.1,V.beqL_eq _ _ h.2⟩
theorem V.beqL_eq:∀(a b:List V),V.beqL a b=true→a=b
 |[],b,h=>by cases b<;>simp[V.beqL]at h ⊢
 |x::a,b,h=>by cases b<;>simp[V.beqL]at h ⊢;exact⟨V.beq_eq _ _ h.1,V.beqL_eq _ _ h.2⟩
end
mutual
theorem V.beq_refl:∀(a:V),V.beq a a=true
 | .und=>rfl
 | .bool _=>by simp[V.beq]
 | .int _ _=>by simp[V.beq]
 | .str _=>by simp[V.beq]
 | .nilp=>rfl
 | .ptr _ _=>by simp[V.beq]
 | .nils=>rfl
 | .sl x=>by simp[V.beq,V.beqL_refl x]
 | .clip x=>by simp[V.beq,V.beqL_refl x]
 | .osl _ _=>by simp[V.beq]
 | .ep x _=>by simp[V.beq,V.beq_refl x]
 | .op _ _ _ _ _=>by simp[V.beq]
 | .win _ _ _ _ _=>by simp[V.beq]
 | .agg x=>by simp[V.beq,V.beqL_refl x]
 | .tup x=>by simp[V.beq,V.beqL_refl x]
 | .fn _ x y=>by simp[V.beq,V.beqL_refl x,V.beqL_refl y]
 | .nilf=>rfl
 | .iface _ x=>by simp[V.beq,V.beq_refl x]
 | .nili=>rfl
 | .mp _=>by simp[V.beq]
 | .nilm=>rfl
 | .mpc x y=>by simp[V.beq,V.beqL_refl x,V.beqL_refl y]
theorem V.beqL_refl:∀(a:List V),V.beqL a a=true
 |[]=>rfl
 |x::a=>by simp[V.beqL,V.beq_refl x,V.beqL_refl a]
end
instance:DecidableEq V:=fun a b=>decidable_of_iff (V.beq a b=true) ⟨V.beq_eq a b,fun e=>e▸V.beq_refl a⟩
instance:DecidableEq Arr:=fun a b=>decidable_of_iff (a.e=b.e∧a.es=b.es∧a.xs=b.xs∧a.wr=b.wr∧a.fz=b.fz) ⟨fun⟨h1,h2,h3,h4,h5⟩=>by cases a;cases b;simp only at h1 h2 h3 h4 h5;subst h1 h2 h3 h4 h5;rfl,fun h=>by subst h;simp⟩
def Ob.dec:(a b:Ob)→Decidable (a=b)
 | .map x,.map y=>decidable_of_iff (x=y) ⟨fun h=>by rw[h],fun h=>by cases h;rfl⟩
 | .iter a b c,.iter d e f=>decidable_of_iff (a=d∧b=e∧c=f) ⟨fun h=>by rw[h.1,h.2.1,h.2.2],fun h=>by cases h;simp⟩
 | .map _,.iter _ _ _=>isFalse (fun h=>by cases h)
 | .iter _ _ _,.map _=>isFalse (fun h=>by cases h)
instance:DecidableEq Ob:=Ob.dec
def St.eqv (s t:St):Prop:=s.nx=t.nx∧s.mem=t.mem∧s.arr=t.arr∧s.x.obj=t.x.obj∧s.x.ty=t.x.ty
instance {s t:St}:Decidable (s.eqv t):=by unfold St.eqv;infer_instance
theorem St.eqv.refl (s:St):s.eqv s:=⟨rfl,rfl,rfl,rfl,rfl⟩
theorem Sim.eqv {w w':World}{A A':Abs}{s st:St}(h:s.eqv st)(hs:Sim w A st)(hx:Ext w A w' A')(hs':Sim w' A' s):Sim w' A' st:=by
 obtain⟨a,b,c,⟨d,e,f⟩⟩:=s
 obtain⟨a',b',c',⟨d',e',f'⟩⟩:=st
 obtain⟨h1,h2,h3,h4,h5⟩:=h
 simp only at h1 h2 h3 h4 h5
 subst h1 h2 h3 h4 h5
 exact⟨hs'.nx,hs'.mem,hs'.arr,hs'.Clt,hs'.ownlt,hs'.disj,⟨hs'.x.obj,fun p hp=>hx.gl (hs.x.gl p hp),hs'.x.ty⟩⟩
theorem VCalls.eqv {P:Program}{f:FuncId}{args:List V}{st s:St}{r:VRes}(he:s.eqv st)(h:VCalls P f args st (fun r' s'=>r'=r∧s'=s)):VCalls P f args st (fun r' s'=>r'=r∧s'=st):=by
 rcases h with h|h
 ·exact .inl ⟨h.1,fun w A vs hs ha=>(h.2 w A vs hs ha).mono fun e w' ⟨r',A',s',⟨e1,e2⟩,h1,h2,h3⟩=>by subst e2;exact⟨r',A',st,⟨e1,rfl⟩,h1,Sim.eqv he hs h3 h2,h3⟩⟩
 ·exact .inr fun w A vs hs ha=>by
   obtain⟨v,w',h0,r',A',s',⟨e1,e2⟩,h1,h2,h3⟩:=h w A vs hs ha
   subst e2
   exact⟨v,w',h0,r',A',st,⟨e1,rfl⟩,h1,Sim.eqv he hs h3 h2,h3⟩
end Go.Sha
