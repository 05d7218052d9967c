/- A part of the proof of InstancesLastUptoSaid: see the last text. -/
import Derived.Test.YtpeialehpoilbaaGreatAe
import Derived.Test.YtpeialehpoilbaaGreatAc
import Derived.Test.YtpeialehpoilbaaGreatAj
import Derived.Test.YtpeialehpoilbaaGreatAd
import Derived.ChangeArms
import Derived.Test.YtpeialehpoilbaaGreatRows
import Derived.WalkKit
import Derived.ProofKit
import Derived.OpenShut
import Derived.JoinedCond
set_option linter.all false
noncomputable section
set_option maxRecDepth 100000
open Bool renaming false->G,true->Y
open Go.Am.ai renaming cells->K
open Go renaming Value->E,Program->zo,DataW->sa,MemPlace->vj,TypeId->zQ,World->zu
open Go.Value renaming bool->zP,slice->zL,string->zN,agg->yu
open List renaming length->I,take_of_length_le->yI,getElem?_cons_succ->wG,getElem?_drop->vz,getElem?_eq_getElem->zm,getElem?_eq_none->tE,length_cons->yo,map_cons->xK,sum_cons->vY,take_append_drop->xO,take_succ_cons->wg
open Option renaming none->U,some->O
open Nat renaming le_refl->zR,le_of_ble_eq_true->wb,zero_le->ya,le_succ->yS
open Go.DataW renaming trod->vF,TrodAll->uW
open Go.World renaming cell?->tC,cells?_some->vi
open Go
open Go.Proofs.Tryz
variable{n k m i j:Nat}
variable{l p:List Go.Value}
variable{h g:Go.Am.H}
variable{v N:Go.Value}
variable{f:Go.FuncId}
variable{C:Go.Am.aV}
variable{B:Nat->Option Go.Am.ai}
variable{t s:Go.TypeId}
variable{A:Type}
variable{R:A->List Go.Value}
variable{u:Go.Am.M}
variable{b:Bool}
variable{W:Go.World}
namespace Go.Proofs.YtpeialehpoilbaaGreat
section
open Go.Am Go.Proofs
def Ty:ag->Bool
 |.r (zP Y) _ U=>Y
 |_=>G
def alP:Ty (cB Z (eval Z 399) 7 [] H.e U (Z.f 7))=Y:=by kernel_rfl
def ajl{a:ag}(h:Ty a=Y):∃m,a=.r (zP Y) m U:=by
 unfold Ty at h;split at h
 .exact⟨_,rfl⟩
 .cases h
def aoH:aJ Z prog 7 (λ_:Unit=>True) (λ_=>[]) (λ_=>zP Y):=by intro _ _ h;let⟨m,e⟩:=ajl alP;exact Sv tok (Rr tok 399) .Nl e rfl (.ret (.Pu (.Gd rfl)))
end
end Go.Proofs.YtpeialehpoilbaaGreat
namespace Go.Am
section
variable{T:au}{P:zo}
open Classical in
def Ms(d:List E)(r:E)(args:List E)(h:H):Option ag:=if eV (lI h) args d then O (.r r h U)else U
def ads(k:aR T P C)(n:∀h,bP T P (.func (.func f) #[] #[]) l h U (.r N h U))(p:∀{m s:M}{v:E},VR m N v->VR s N v):aR T P (bY f (Ms l N) C):=by
 intro t args h a e;by_cases j:t=f
 .subst j;rw[gC]at e;unfold Ms at e;split at e
  .rename_i u;cases e
   exact RE (n H.e) p (.refl _) (λc=>c) (λb o i=>by
    unfold lI at i;split at i
    .rename_i q;exact⟨i,λw F=>(F.hi b q).1⟩
    .cases i) u
  .cases e
 .rw[jk j]at e;exact k _ _ _ _ e
def aee{d:List E}(a:C f=Ms d v){args:List E}(b:eV (lI h) args d)(n:Nat):af T C n (aj f args h)=.r v h U:=ji n (by rw[a];exact if_pos b)
open Classical in
def QG(Q:Prop)(a:List E->List Nat)(d:List E)(r:E)(args:List E)(h:H):Option ag:=if Q/\h.mV (a args)/\DL (jC h (a args)) args d then O (.r r (h.bx (a args)) U)else U
def avm{Q:Prop}{b:List E->List Nat}(j:aR T P C)(k:Q->∀h,bP T P (.func (.func f) #[] #[]) l h U (.r v h U)):aR T P (bY f (QG Q b l v) C):=by
 intro m args h a e;by_cases i:m=f
 .subst i;rw[gC]at e;unfold QG at e;split at e
  .rename_i c;cases e;exact GS (k c.1 _) c.2.1 c.2.2
  .cases e
 .rw[jk i]at e;exact j _ _ _ _ e
def aw2{Q:Prop}{eM:List E->List Nat}{d:List E}(a:C f=QG Q eM d v){args:List E}(b:Q)(c:h.mV (eM args))(e:DL (jC h (eM args)) args d)(n:Nat):af T C n (aj f args h)=.r v (h.bx (eM args)) U:=
 ji n (by rw[a];exact if_pos ⟨b,c,e⟩)
end
end Go.Am
namespace Go.Proofs.YtpeialehpoilbaaGreat
section
open Go.Am Go.Proofs Go.Am.Sym Go.Am.Eu
def atj{s:ByteArray}:eK Z h 31 (O (aAg z5)) (O [(0,J 3),(2,zN s)])=.v (aAg [J 3,J 0,zN s,ba,ba]) h:=by kernel_rfl
def avn:aJ Z prog 12 (λ_:ByteArray=>True) (λs=>[zN s]) (λs=>D (.mk 3 0 s [] [])):=by
 intro s _
 obtain⟨v,rfl,a⟩:=Is (β:=zA) (r:=D) (Q:=λv=>v=.mk 3 0 s [] []) (T:=Z) (args:=[zN s]) tok cg aW dF 5 F12 rfl rfl (by
  have b:=λ(h:H)(q:ae h 0 (ad z5 31))=>fp (c:=[J 3,J 0,zN s,ba,ba]) (c0:=z5) rfl rfl q rfl;simp[bC F12,f12,atj,b]
  exact⟨_,aAg [J 3,J 0,zN s,ba,ba],_,by simp[fh (c:=[J 3,J 0,zN s,ba,ba]) rfl];rfl,by rw[By];exact .agg (.Cs eI (.Cs eI (.Cs eI (.Cs .cP (.Cs .cP .Nl))))),rfl⟩)
 exact a
def aw3{c:List E}(h:I c=7):zE Z 27 c 0=O (aAg c):=by rw[fV (show Am.zK Z 27=O Y by kernel_rfl) (show Am.zI Z 27=O 7 by kernel_rfl),nw (by omega),List.drop_zero,yI (by omega)];rfl
abbrev Gt(x:iE)(a b:Nat):List E:=[zL (pO a) (I x.rows) (I x.rows),x.impl,bL x.dZ,zL (pO b) (I x.cH.l+1) (I x.cH.l+1),x.lL,x.ns,x.opens]
def aoI(x:iE):I x.rows=I x.st.env:=by show(x.env.l.map DR.d++[DR.l x.t]).length=I (x.env.l++[nJ x.t]);simp
def Ub{x:iE}(b:x.Ok){r1 r2:Bool}(d:B n=O (K (zF pg x.rows) 38 r1))(f:B k=O (K (zF zN (x.cH.l++[bR])) 9 r2)):ej B (aAg (Gt x n k)) (dO x.st):=by
 refine .agg (.Cs ?_ (.Cs (.Pu b.impl) (.Cs (.Pu (lj _)) (.Cs ?_ (.Cs (.Pu b.lL) (.Cs (.Pu b.ns) (.Cs (.Pu b.opens) .Nl)))))))
 .show ej B _ (cp (x.st.env.map bI) 0 (I x.st.env) []);rw[<-aoI];exact .slice (pre:=[]) (post:=[]) (es:=x.rows.map pg) (sz:=23) (e:=38) (gr:=r1) (by rw[d,qB];simp) rfl (λy c=>by obtain⟨a,_,rfl⟩:=List.mem_map.1 c;exact QF.len a) (by simp) (zR _) (aoF B x)
 .show ej B _ (cp ((x.cH.l++[bR]).map zN) 0 (I (x.cH.l++[bR])) []);rw[show(x.cH.l++[bR]).length=I x.cH.l+1 by simp];exact .slice (pre:=[]) (post:=[]) (es:=(x.cH.l++[bR]).map zN) (sz:=1) (e:=9) (gr:=r2) (by rw[f,qB];simp) rfl (λy c=>by obtain⟨a,_,rfl⟩:=List.mem_map.1 c;rfl) (by simp) (zR _) (eV.pure (map_pure (λ_=>.Gd rfl) _))
def aef:List E->List Nat
 |.agg ⟨zL (O ⟨b,_,_⟩) _ _::_::_::zL (O ⟨c,_,_⟩) _ _::_⟩::_=>[b,c]
 |_=>[]
end
section
open Go.Am Go.Proofs Go.Am.Sym Go.Am.Eu
abbrev Ds(a:Am.Tr E)(_:H):Prop:=a.g 4=O (zP Y)
def aoJ(g:Nat->Option ai)(t:zA):ej g (aAg (mK t)) (fE (m1 t)):=by have a:tc zT=[J 0,J 0,zN ⟨#[]⟩,aO [],al []]:=rfl;show ej g (aAg (mK t)) (aAg (tc t++(zP G::(tc zT++[zP Y]))));rw[a];refine .agg (.Cs (.Pu (.Gd rfl)) (.Cs (.Pu (.Gd rfl)) (.Cs (.Pu (.Gd rfl)) (.Cs (.Pu (jM _)) (.Cs (.Pu (fb _)) (.Cs (.Pu (.Gd rfl)) (.Cs (.Pu (.Gd rfl)) (.Cs (.Pu (.Gd rfl)) (.Cs (.Pu (.Gd rfl)) (.Cs .cP (.Cs .cP (.Cs (.Pu (.Gd rfl)) .Nl))))))))))))
def aaT:f3.body=O (.seq (z f3 pF0) (.seq (z f3 pF1) (.seq (z f3 pF2) (z f3 pT3)))):=rfl
def aw4(x:iE)(t:x.Ok):∃(C:aV)(n:Nat)(h:H),aR Z prog C/\cB Z (af Z C n) 3 [x.dO,D x.t] H.e U (Z.f 3)=.r (zP Y) h U:=by
 let⟨c4,hc4,s4⟩:=atg x.env (by have:=Hl x.env.l;have:=t.env;omega);let⟨c5,hc5,s5⟩:=ath x.cH (by have:=t.ins;omega);let⟨f6,hf6,u⟩:=awZ;have hs:=abS t;have V:∀h,bP Z prog (.func (.func 6) #[] #[]) [dO x.st,QE x.t] h U (.r (zP (f6 (x.st,x.t))) h U):=λh=>hf6 (x.st,x.t) hs h;have u:f6 (x.st,x.t)=Y->s6 x.st.env/\∀d∈x.st.env,oH d:=u (x.st,x.t) hs;generalize f6 (x.st,x.t)=b6 at V u;have ht:wt x.t<1050000:=by have:=t.env;omega
 have rm:zD x.t<1073741824:=by have:=Em x.t;omega
 have hs8:∀h,bP Z prog (.func (.func 8) #[] #[]) [dO x.st,D x.t] h U (.r (pU (o8 x.dZ x.t)) h U):=λh=>apd (x.st,x.t) ⟨hs.ok,rm⟩ h
 obtain⟨r,hr⟩:∃r:zA×Int,C8 x->(r=(eR,0)\/r=(zT,11))/\∀h0,bP Z prog (.func (.func 10) #[] #[]) [dO x.st,D x.t] h0 U (.r (cj r) h0 U):=by
  by_cases a:C8 x
  .let⟨ff,wE,F⟩:=fiW (adr hs.env a.env a.ng);let⟨r,h⟩:=ahG _ F (a.fd t) rfl rfl rfl;exact⟨r,λ_=>h⟩
  .exact⟨(zT,0),λq=>absurd q a⟩
 let C0:aV:=bY 12 (gq (λ_:ByteArray=>True) (λs=>[zN s]) (λs=>D (.mk 3 0 s [] []))) (bY 11 (gq (λx:zA=>wt x<ao) (λx=>[D x,D x]) (λ_=>zP Y)) (bY 9 (gq (λx:nS=>I x.1<ao) oD (λx=>zP (eW x.1 x.2))) (bY 7 (gq (λ_:Unit=>True) (λ_=>[]) (λ_=>zP Y)) cg)));have Qg:aR Z prog C0:=aZ (aZ (aZ (aZ aW aoH) Kr) as8) avn;let C1:aV:=bY 10 (QG (C8 x) aef [dO x.st,D x.t] (cj r)) (bY 8 (Ms [dO x.st,D x.t] (pU (o8 x.dZ x.t))) (bY 6 (Ms [dO x.st,QE x.t] (zP b6)) C0))
 have Wj:aR Z prog C1:=avm (ads (ads Qg V (Jk rfl)) hs8 (λh=>by
  cases h with
  |tuple h=>cases h with
   |Cs a h=>cases h with
    |Cs b h=>cases h;exact .tuple (.Cs (Jk rfl a) (.Cs (Jk rfl b) .Nl)))) (λa=>(hr a).2)
 let C:aV:=bY 5 c5 (bY 4 c4 C1);have hC:aR Z prog C:=s5 _ (s4 _ Wj);have Q:∀n m,af Z C n (aj 7 [] m)=.r (zP Y) m U:=λn m=>ji n (Bl (pre:=λ_:Unit=>True) (enc:=λ_=>[]) (f:=λ_=>zP Y) (λ_ _ _=>rfl) (x:=()) trivial m);have e9:∀n m,af Z C n (aj 9 [bL x.dZ,zN bR] m)=.r (zP (eW x.dZ bR)) m U:=λn m=>ji n (Bl (pre:=λx:nS=>I x.1<ao) (enc:=oD) (f:=λx=>zP (eW x.1 x.2)) (λx y e=>by rw[ND e]) (x:=(x.dZ,bR)) (by show I x.dZ<ao;have:=t.ng;unfold ao;omega) m);have W0:∀n m,af Z C n (aj 11 [D eR,D eR] m)=.r (zP Y) m U:=λn m=>ji n (Bl (pre:=λx:zA=>wt x<ao) (enc:=λx=>[D x,D x]) (f:=λ_=>zP Y) (λ_ _ _=>rfl) (x:=eR) (by show wt eR<ao;decide) m);have e12:∀n m,af Z C n (aj 12 [zN bR] m)=.r (D eR) m U:=λn m=>ji n (Bl (pre:=λ_:ByteArray=>True) (enc:=λs=>[zN s]) (f:=λs=>D (.mk 3 0 s [] [])) (λx y e=>by simp at e;rw[e]) (x:=bR) trivial m)
 have key:aD Ds Ds (λ_ _ _=>False) (aw Z (af Z C 10) ⟨3,U⟩ (.seq (z f3 pF0) (.seq (z f3 pF1) (.seq (z f3 pF2) (z f3 pT3)))) ⟨bF [x.dO,D x.t] 0 .Nl,[],H.e,U⟩):=by
  refine aS (N':=λA h=>h=(H.e.w (K x.jt 27 G)).w (K (ah (D x.t)) 31 G)/\A.g 2=O (pB 0)/\A.g 3=O (pB 1)) (by have e:ah x.dO=x.jt:=rfl;simp[z,f3,e]) λA h⟨eh,B,L⟩=>?_
  subst eh;refine aS ((aw0 hc4 rfl (by have:=Hl x.env.l;have:=t.env;omega) B L).Mo (λ_ _ q=>q) (λ_ _ q=>q.elim) (λ_ _ _ q=>q)) λA h j=>?_;refine aS ((aw1 hc5 rfl (by have:=t.ins;omega) j).Mo (λ_ _ q=>q) (λ_ _ q=>q.elim) (λ_ _ _ q=>q)) λA h⟨k,l,j⟩=>?_;let⟨p,g1,B,L,M,⟨r1,gV⟩,⟨r2,gW⟩,lo⟩:=j;have M:h.g 0=O (K (Gt x k l) 27 G):=M;have R:=aw3 (c:=Gt x k l) rfl;have v:∀(m:H)(b:Nat)(o:ai),m.b=0->m.g b=O o->lI m b=O o:=λm b o hm hg=>by show(if m.b<=b then m.g b else U)=_;rw[if_pos (by omega),hg]
  have n0:¬0=h.n:=by omega
  have W:¬1=h.n:=by omega
  let g:=h.w (K (mK x.t) 42 G);have S:∀n,af Z C n (aj 6 [aAg (Gt x k l),aAg [zL (O ⟨h.n,0,U⟩) 1 1,ba,ba,J 0]] g)=.r (zP b6) g U:=aee (d:=[dO x.st,QE x.t]) rfl (.Cs (Ub t (v g k (K (zF pg x.rows) 38 r1) (by simp[g,p]) (by simp[g,gV,show¬k=h.n by omega])) (v g l (K (zF zN (x.cH.l++[bR])) 9 r2) (by simp[g,p]) (by simp[g,gW,show¬l=h.n by omega]))) (.Cs (.agg (.Cs (.slice (pre:=[]) (post:=[]) (es:=[aAg (mK x.t)]) (ds:=[fE (m1 x.t)]) (sz:=12) (e:=42) (gr:=G) (v g h.n (K (mK x.t) 42 G) (by simp[g,p]) (by simp[g])) rfl (λy hy=>by rw[List.mem_singleton.1 hy];rfl) rfl (zR _) (.Cs (aoJ _ _) .Nl)) (.Cs (.Pu (.Gd rfl)) (.Cs (.Pu (.Gd rfl)) (.Cs (.Pu (.Gd rfl)) .Nl))))) .Nl));have nt:h.n≠k/\h.n≠l:=by omega
  by_cases w:b6=Y
  case neg=>
   have w:b6=G:=by simpa using w
   simp[z,f3,B,L,p,M,g1,R,E8,EI,EJ,S,Q,w,g,Ds]
  by_cases T:x.t.w=6
  .simp[z,f3,B,L,p,M,g1,R,E8,EI,EJ,S,Q,w,W,g,Ds,T]
  have hD:ej (lI g) (aAg (Gt x k l)) (dO x.st):=Ub t (v g k (K (zF pg x.rows) 38 r1) (by simp[g,p]) (by simp[g,gV,show¬k=h.n by omega])) (v g l (K (zF zN (x.cH.l++[bR])) 9 r2) (by simp[g,p]) (by simp[g,gW,show¬l=h.n by omega]));have e8:∀n,af Z C n (aj 8 [aAg (Gt x k l),D x.t] g)=.r (pU (o8 x.dZ x.t)) g U:=aee (d:=[dO x.st,D x.t]) rfl (.Cs hD (.Cs (.Pu (bg _)) .Nl));by_cases N:(o8 x.dZ x.t).2=Y
  case neg=>
   have N:(o8 x.dZ x.t).2=G:=by simpa using N
   simp[z,f3,B,L,p,M,g1,R,E8,EI,EJ,S,Q,e8,w,T,N,n0,W,g,Ds]
  by_cases X:eW x.dZ bR=Y
  .simp[z,f3,B,L,p,M,g1,R,mG,E8,EI,EJ,S,Q,e8,e9,w,T,N,X,n0,W,g,Ds]
  have X:eW x.dZ bR=G:=by simpa using X
  have hA:C8 x:=⟨(u w).1,(u w).2,T,N⟩;have hBs:g.mV [k,l]:=⟨by simp[g,gV,show¬k=h.n by omega],by simp;omega,by simp[g,gW,show¬l=h.n by omega],by simp,trivial⟩;have P:∀n,af Z C n (aj 10 [aAg (Gt x k l),D x.t] g)=.r (cj r) (g.bx [k,l]) U:=aw2 (eM:=aef) (d:=[dO x.st,D x.t]) rfl hA hBs (.Cs (.of (Ub (r1:=r1) (r2:=r2) t (by show jC g [k,l] k=_;unfold jC;rw[if_pos (by simp)];simp[g,gV,show¬k=h.n by omega]) (by show jC g [k,l] l=_;unfold jC;rw[if_pos (by simp)];simp[g,gW,show¬l=h.n by omega]))) (.Cs (.Pu (bg _)) .Nl));have hb7:(g.bx [k,l]).b=0:=(rI (h:=g) (by simp[g,p]) [k,l]).2.1;generalize g.bx [k,l]=m7 at P hb7;have hr:=(hr hA).1;have sT:=λ(q:H)(b:Nat)(e:q.g b=O (K z5 31 G))=>fp (c:=tc r.1) rfl (EE r.1) e rfl;rcases hr with rfl|rfl
  .simp[z,f3,B,L,p,M,g1,R,mG,E8,EI,EJ,S,Q,e8,e9,P,e12,W0,w,T,N,X,n0,W,g,Ds,hb7]
  .simp[z,f3,B,L,p,M,g1,R,mG,E8,EI,EJ,S,Q,e8,e9,P,w,T,N,X,n0,W,g,Ds]
 rcases key.cases with⟨A,m,e,q⟩|⟨A,m,e,q⟩|⟨i,A,m,e,q⟩
 .exact⟨C,10,m,hC,dx (n:=9) F3 aaT (rs:=[.tmp 4]) rfl (vs:=[zP Y]) (h2:=m) (by rw[e];simp[q])⟩
 .exact⟨C,10,m,hC,dx (n:=9) F3 aaT (rs:=[.tmp 4]) rfl (vs:=[zP Y]) (h2:=m) (by rw[e];simp[q])⟩
 .cases q
end
section
open Go.Am Go.Proofs Go.Am.Sym Go.Am.Eu
section
variable{H:Type}{enc:zQ×E->H}{P:zo}{w:zu}{spare:Nat->Bool}{held:Bool}
def agI(l:List (sa H)):∀(k:Nat)(d:sa H),l[k]?=O d->Rows.uptoBulkAll (l.take (k+1))=Rows.uptoBulkAll (l.take k)+Rows.uptoBulk d:=by
 induction l with
 |nil=>intro k d h;simp at h
 |cons x l a=>
  intro k d h;cases k with
  |zero=>simp at h;subst h;simp[Rows.uptoBulkAll]
  |succ k=>
   have:=a k d (by simpa using h);simp only[wg,Rows.uptoBulkAll,this];omega
def YZ{Iw:A->E}{Mt:A->Nat}(ht:P.underlying t=O (.slice s))(T:0<P.cellsOf s)
 (elem:∀f,f<n->∀l x,vF enc P w 0 spare held f s l=O x->∃a M,M.cells.toList=l/\VR (kJ w) (Iw a) M/\Mt a<=Rows.uptoBulk x.1)
 {x:sa H×List vj}(h:vF enc P w 0 spare held n t l=O x):
 ∃(d:List A)(M:E),l=[M]/\VR (kJ w) (cp (d.map Iw) 0 (I d) []) M/\(d.map Mt).sum+1<=Rows.uptoBulk x.1:=by
 rcases DataW.trod_slice ht h with⟨rfl,rfl⟩|⟨a,len,V,g,rest,f,rfl,rfl,rfl,_,hlc,_,PT,W,_,_⟩
 .exact⟨[],_,rfl,.gi (λ_=>rfl) (.inl rfl),by simp[Rows.uptoBulk]⟩
 .by_cases h0:len=0
  .subst h0;exact⟨[],_,rfl,.gi (λh=>by cases h) (.inl rfl),by simp[Rows.uptoBulk]⟩
  .have F:∀i,i<len->∃u y,w.cells? 0 (a.add (i*P.cellsOf s)) (P.cellsOf s)=O u/\vF enc P w 0 spare held f s u=O y/\g[i]?=O y:=by
    intro i R;have B:=W i R;have N:g[i]?=O g[i]:=zm (by omega);rw[N]at B;cases C:w.cells? 0 (a.add (i*P.cellsOf s)) (P.cellsOf s)with
    |none=>rw[C]at B;cases B
    |some u=>rw[C]at B;exact⟨u,g[i],rfl,B,N⟩
   let⟨b,off,spot⟩:=a
   obtain⟨o,et,fz,S,X,Pj⟩:∃o et fz,w.heap[b]?=O (.cells o et fz)/\spot=U/\off<o.size:=by
    let⟨u,y,C,_,_⟩:=F 0 (by omega);let⟨_,hl,q⟩:=vi C;have L:=q 0 T;have e0:((⟨b,off,spot⟩:Addr).add (0*P.cellsOf s)).add 0=⟨b,off,spot⟩:=by simp[Addr.add]
    rw[e0]at L;have hs:u[0]?=O u[0]:=zm (by omega);rw[hs]at L;unfold tC at L;split at L
    .rename_i c e1 f1 S;split at L
     .cases L
     .rename_i hn;refine⟨c,e1,f1,S,by cases spot<;>simp_all,?_⟩;exact(Array.getElem?_eq_some_iff.1 L).1
    .cases L
   subst X
   have row:∀i,i<len->∀u,w.cells? 0 ((⟨b,off,U⟩:Addr).add (i*P.cellsOf s)) (P.cellsOf s)=O u->u=((o.toList.drop off).drop (i*P.cellsOf s)).take (P.cellsOf s):=by
    intro i R u C;let⟨_,hl,q⟩:=vi C;apply List.ext_getElem?;intro j;by_cases hj:j<P.cellsOf s
    .have:=q j hj;rw[kT,kT]at this;rw[<-this];unfold tC;rw[S];rw[List.getElem?_take_of_lt hj,vz,vz];simp;congr 1;omega
    .rw[tE (by omega),tE (by simp;omega)]
   have key:∀k,k<=len->∃(d:List A)(r:List E),I d=k/\LR (kJ w) (d.map Iw) r/\(∀v∈r,I v.cells.toList=P.cellsOf s)/\r.flatMap (·.cells.toList)=(o.toList.drop off).take (k*P.cellsOf s)/\
    (d.map Mt).sum<=Rows.uptoBulkAll ((g.map (·.1)).take k):=by
    intro k;induction k with
    |zero=>intro _;exact⟨[],[],rfl,.Nl,by simp,by simp,by simp⟩
    |succ k ih=>
     intro hk;let⟨d,r,B,N,h3,h4,h5⟩:=ih (by omega);let⟨u,y,C,Ch,hy⟩:=F k (by omega);let⟨a1,M,q1,q2,q3⟩:=elem f (by omega) u y Ch;have hci:=row k (by omega) u C;refine⟨d++[a1],r++[M],by simp[B],?_,?_,?_,?_⟩
     .rw[List.map_append];exact N.append (.Cs q2 .Nl)
     .intro v Q;rcases List.mem_append.1 Q with Q|Q
      .exact h3 v Q
      .simp at Q;subst Q;rw[q1];exact(vi C).2.1
     .rw[List.flatMap_append,h4,Nat.succ_mul,List.take_add,<-hci,<-q1];simp
     .rw[agI _ k y.1 (by simp[hy])];simp;omega
   let⟨d,r,B,N,h3,h4,h5⟩:=key len (zR _);refine⟨d,_,rfl,?_,?_⟩
   .have R:(kJ w).im b=O (o.toList.take off++(r.flatMap (·.cells.toList)++(o.toList.drop off).drop (len*P.cellsOf s))):=by rw[arl S,h4,xO,xO]
    have:=VR.data (m:=kJ w) (es:=d.map Iw) (off:=0) (len:=I d) (p:= #[]) (fG:=[]) (cd:=V) R N h3 (by simp) (by omega) (.inl rfl);have e1:I (o.toList.take off)+0*P.cellsOf s=off:=by simp;omega
    rw[e1,B]at this;rw[B];exact this
   .rw[yI (by simp;omega)]at h5;simp only[Rows.uptoBulk];omega
end
section
variable(H:Type)(enc:zQ×E->H)(w:zu)(spare:Nat->Bool)(held:Bool)
def Rc(k:Nat)(t:zQ)(b:A->List E)(c:A->Nat):Prop:=
 ∀n,n<k->∀cs x,vF enc prog w 0 spare held n t cs=O x->∃a,LR (kJ w) (b a) cs/\c a<=Rows.uptoBulk (H:=H) x.1
def Rf(k:Nat)(b:List zQ)(e:A->List E)(f:A->Nat):Prop:=
 ∀n,n<k->∀cs(c:List (sa H×List vj)),I cs=(b.map prog.cellsOf).sum->I c=I b->
  (∀i d,b[i]?=O d->vF enc prog w 0 spare held n d ((cs.drop ((b.take i).map prog.cellsOf).sum).take (prog.cellsOf d))=c[i]?)->∃a,LR (kJ w) (e a) cs/\f a<=Rows.uptoBulkAll (c.map (·.1))
end
section
variable{H:Type}{enc:zQ×E->H}{w:zu}{spare:Nat->Bool}{held:Bool}{k:Nat}
def Rc.map{d g:Type}{t:zQ}{i:d->List E}{sz:d->Nat}{b:g->List E}{c:g->Nat}(h:Rc H enc w spare held k t i sz)(f:d->g)(j:∀a,b (f a)=i a)(l:∀a,c (f a)<=sz a):Rc H enc w spare held k t b c:=λn m o x e=>by let⟨a,h1,p⟩:=h n m o x e;exact⟨f a,by rw[j];exact h1,Nat.le_trans (l a) p⟩
def Rc.lt{a:A->Nat}(h:Rc H enc w spare held k t R a)(b:j<=k):Rc H enc w spare held j t R a:=λn c=>h n (by omega)
def Rf.nil:Rf H enc w spare held k [] (λ_:Unit=>[]) (λ_=>0):=λ_ _ b _ a _ _=>⟨(),by rw[List.length_eq_zero_iff.1 a];exact .Nl,ya _⟩
def Rf.cons{e β:Type}{t:zQ}{ts:List zQ}{g:e->List E}{sz:e->Nat}{c:β->List E}{d:β->Nat}(h:Rc H enc w spare held k t g sz)(m:Rf H enc w spare held k ts c d):Rf H enc w spare held k (t::ts) (λa:e×β=>g a.1++c a.2) (λa=>sz a.1+d a.2):=by
 intro n j o p q f l
 match p,f with
 |y::r,f=>
  simp only[xK,vY]at q;obtain⟨a,s,A⟩:=h n j _ y (by simpa using l 0 t rfl)
  obtain⟨b,u,B⟩:=m n j (o.drop (prog.cellsOf t)) r (by rw[List.length_drop];omega) (by simpa using f) (λi v x=>by have:=l (i+1) v (by simpa using x);simp only[wg,xK,vY,wG]at this;rw[List.drop_drop];exact this)
  refine⟨(a,b),?_,?_⟩
  .have:=s.append u;rwa[xO]at this
  .simp only[xK,Rows.uptoBulkAll];omega
def FG(P:zo):Nat->List zQ->List (Nat×Nat)
 |_,[]=>[]
 |o,t::l=>(t,o)::FG P (o+P.cellsOf t) l
def aaU(P:zo):∀(l:List zQ)(o i:Nat)(a:zQ),l[i]?=O a->(FG P o l)[i]?=O (a,o+((l.take i).map P.cellsOf).sum)
 |t::l,o,0,a,h=>by simp at h;simp[FG,h]
 |t::l,o,i+1,a,h=>by have:=aaU P l (o+P.cellsOf t) i a (by simpa using h);simp only[FG,wG,this,wg,xK,vY];rw[Nat.add_assoc]
def aaV(P:zo):∀(l:List zQ)(o:Nat),I (FG P o l)=I l
 |[],_=>rfl
 |t::l,o=>by rw[FG,yo,aaV P l,yo]
def Rc.struct{fs:Array Field}(g:prog.underlying t=O (.struct fs)){oh:List zQ}(b:fs.toList.map (λf=>(f.type,f.offset))=FG prog 0 oh)(j:prog.cellsOf t=(oh.map prog.cellsOf).sum)
 {d:A->Nat}(h:Rf H enc w spare held k oh R d):Rc H enc w spare held (k+1) t R (λa=>d a+1):=by
 intro n B l x e;obtain⟨o,m,C,rfl,p,r,s⟩:=DataW.trod_struct g e
 let⟨a,u,F⟩:=h m (by omega) l o (by rw[p,j]) (by rw[r,<-Array.length_toList,<-List.length_map (f:=λf:Field=>(f.type,f.offset)),b,aaV]) (λi v y=>by
  have q:=aaU prog oh 0 i v y;rw[<-b,List.getElem?_map,Nat.zero_add]at q;cases c:fs.toList[i]? with
  |none=>rw[c]at q;cases q
  |some f=>
   rw[c]at q;simp only[Option.map_some,Option.some.injEq,Prod.mk.injEq]at q;have:=s i f (by rw[<-c];simp);rw[q.1,q.2]at this;exact this)
 exact⟨a,u,by simp only[Rows.uptoBulk];omega⟩
def Rc.Ax{e :zQ}(d:prog.underlying t=O (.slice e))(f:Nat.ble 1 (prog.cellsOf e)=Y){b:A->Nat}(h:Rc H enc w spare held k e R b):Rc H enc w spare held (k+1) t (λl:List A=>[cp (l.map λa=>aAg (R a)) 0 (I l) []]) (λl:List A=>(l.map b).sum+1):=by
 intro n p c x q
 obtain⟨l,v,rfl,g,i⟩:=YZ (Iw:=λa=>aAg (R a)) (Mt:=b) d (wb f) (λj r c x q=>by let⟨a,m,o⟩:=h j (by omega) c x q;exact⟨a,aAg c,rfl,.agg m,o⟩) q
 exact⟨l,.Cs g .Nl,i⟩
def Rc.acN{e :zQ}(i:prog.underlying t=O (.slice e))(m:Nat.ble 1 (prog.cellsOf e)=Y){f:A->E}{d:A->Nat}(h:Rc H enc w spare held k e (λa=>[f a]) d)(b:∀a v,VR (kJ w) (f a) v->v.cells.toList=[v]):Rc H enc w spare held (k+1) t (λl:List A=>[cp (l.map f) 0 (I l) []]) (λl:List A=>(l.map d).sum+1):=by
 intro n u g x q
 obtain⟨l,v,rfl,o,p⟩:=YZ (Iw:=f) (Mt:=d) i (wb m) (λj y g x q=>by
  let⟨a,c,s⟩:=h j (by omega) g x q;cases c with
  |Cs c r=>cases r;exact⟨a,_,b a _ c,c,s⟩) q
 exact⟨l,.Cs o .Nl,p⟩
def u3':prog.underlying 3=O (.int .i64):=by kernel_rfl
def W9:prog.underlying 4=O .bool:=by kernel_rfl
def u9':prog.underlying 9=O .string:=by kernel_rfl
def oN:Rc H enc w spare held k 3 (λi:Int=>[J i]) (λ_=>1):=λn _ a x h=>by obtain⟨i,rfl,rfl,_⟩:=DataW.trod_int u3' h;exact⟨i,.Cs (.int ..) .Nl,zR _⟩
def rcB:Rc H enc w spare held k 4 (λb:Bool=>[zP b]) (λ_=>0):=λn _ a x h=>by obtain⟨b,rfl,_⟩:=DataW.trod_bool W9 h;exact⟨b,.Cs (.bool _) .Nl,ya _⟩
def DS:Rc H enc w spare held k 9 (λs:ByteArray=>[zN s]) (λs=>s.size+1):=λn _ a x h=>by obtain⟨s,rfl,rfl,_⟩:=DataW.trod_string u9' h;exact⟨s,.Cs (.string s) .Nl,zR _⟩
end
end
section
open Go.Am Go.Proofs Go.Am.Sym Go.Am.Eu
def aoK:Option TypeDesc->Array Field
 |some (.struct a)=>a
 |_=> #[]
abbrev pC(t:zQ):Array Field:=aoK (prog.underlying t)
section
variable{H:Type}{enc:zQ×E->H}{w:zu}{spare:Nat->Bool}{held:Bool}{k:Nat}
def aq4(s:ByteArray)(v:E)(h:VR (kJ w) (zN s) v):v.cells.toList=[v]:=by cases h;rfl
def aq5(i:Int)(v:E)(h:VR (kJ w) (J i) v):v.cells.toList=[v]:=by cases h;rfl
def abT{a:Type}:∀l:List a,(l.map λ_=>1).sum=I l
 |[]=>rfl
 |x::l=>by rw[xK,vY,abT l,yo];omega
def aw5:Rc H enc w spare held k 96 (λx:ga=>[J x.index,J x.plus]) (λ_=>1):=
 ((Rc.struct (fs:=pC 96) (oh:=[3,3]) (by kernel_rfl) (by kernel_rfl) (by kernel_rfl) (.cons oN (.cons oN .nil))).map (λa=>⟨a.1,a.2.1⟩) (λ_=>rfl) (λ_=>by omega)).lt (yS k)
def rcL:Rc H enc w spare held k 63 lc (λx=>1+I x.v):=
 ((Rc.struct (fs:=pC 63) (oh:=[3,61]) (by kernel_rfl) (by kernel_rfl) (by kernel_rfl) (.cons oN (.cons ((Rc.Ax (by kernel_rfl) (by kernel_rfl) aw5).lt (yS k)) .nil))).map (λa=>⟨a.1,a.2.1⟩) (λ_=>rfl) (λa=>by show 1+I a.2.1<=_;simp only[abT];omega)).lt (yS k)
def Tz:∀l:List zA,fA l=(l.map wt).sum
 |[]=>rfl
 |t::l=>by rw[G4,Tz l];simp
def KH:Rc H enc w spare held k 24 (λl:List ByteArray=>[bL l]) (λl=>I l):=
 ((Rc.acN (by kernel_rfl) (by kernel_rfl) DS aq4).map id (λ_=>rfl) (λl=>Nat.le_succ_of_le (by have:=J9 (f:=λs:ByteArray=>s.size+1) (λ_=>by omega) l;exact this))).lt (yS k)
def Co:∀k,Rc H enc w spare held k 31 tc wt
 |0=>λn h=>by omega
 |k+1=>by
  refine(Rc.struct (fs:=pC 31) (oh:=[3,3,9,28,29]) (by kernel_rfl) (by kernel_rfl) (by kernel_rfl) (.cons oN (.cons oN (.cons DS (.cons ((Rc.Ax (by kernel_rfl) (by kernel_rfl) rcL).lt (yS k)) (.cons ((Rc.Ax (by kernel_rfl) (by kernel_rfl) (Co k)).lt (yS k)) .nil)))))).map (λa=>.mk a.1 a.2.1 a.2.2.1 a.2.2.2.1 a.2.2.2.2.1) (λa=>?_) (λa=>?_)
  .show[J a.1,J a.2.1,zN a.2.2.1,aO a.2.2.2.1,al a.2.2.2.2.1]=_;have:(λa=>yu ⟨tc a⟩)=D:=funext λa=>(eD a).symm;rw[this];rfl
  .rw[Uy,Tz];unfold BB;omega
def aw6:Rc H enc w spare held k 29 (λl:List zA=>[al l]) fA:=
 ((Rc.Ax (by kernel_rfl) (by kernel_rfl) (Co k)).map id (λl=>by have:(λa=>yu ⟨tc a⟩)=D:=funext λa=>(eD a).symm;show[al l]=[_];rw[this];rfl) (λl=>by show fA l<=_;rw[Tz];omega)).lt (yS k)
def rcC:Rc H enc w spare held k 142 (λc:gM=>zN c.name::tc c.type) DO:=
 ((Rc.struct (fs:=pC 142) (oh:=[9,31]) (by kernel_rfl) (by kernel_rfl) (by kernel_rfl) (.cons DS (.cons (Co k) .nil))).map (λa=>⟨a.1,a.2.1⟩) (λa=>by simp) (λa=>by unfold DO;dsimp only;omega)).lt (yS k)
def aaW:∀l:List (ByteArray×Bool×Tree),B0 l=(l.map λx=>1+x.1.size+gZ x.2.2).sum
 |[]=>rfl
 |(n,a,t)::l=>by rw[B0,aaW l];simp
def aeg:∀k,Rc H enc w spare held k 145 du gZ
 |0=>λn h=>by omega
 |k+1=>by
  have b:Rc H enc w spare held k 177 (λx:ByteArray×Bool×Tree=>zN x.1::zP x.2.1::du x.2.2) (λx=>1+x.1.size+gZ x.2.2):=
   ((Rc.struct (fs:=pC 177) (oh:=[9,4,145]) (by kernel_rfl) (by kernel_rfl) (by kernel_rfl) (.cons DS (.cons rcB (.cons (aeg k) .nil)))).map (λa=>(a.1,a.2.1,a.2.2.1)) (λa=>by simp) (λa=>by dsimp only;omega)).lt (yS k)
  refine(Rc.struct (fs:=pC 145) (oh:=[3,31,3,143]) (by kernel_rfl) (by kernel_rfl) (by kernel_rfl) (.cons oN (.cons (Co k) (.cons oN (.cons ((Rc.Ax (by kernel_rfl) (by kernel_rfl) b).lt (yS k)) .nil))))).map (λa=>.mk a.1 a.2.1 a.2.2.1 a.2.2.2.1) (λa=>?_) (λa=>?_)
  .rw[iH];rfl
  .rw[T7,aaW];show 1+wt a.2.1+_<=_;dsimp only[Tree.cb];omega
def rcF:Rc H enc w spare held k 147 kb DP:=
 ((Rc.struct (fs:=pC 147) (oh:=[9,31,3,145]) (by kernel_rfl) (by kernel_rfl) (by kernel_rfl) (.cons DS (.cons (Co k) (.cons oN (.cons (aeg k) .nil))))).map (λa=>⟨a.1,a.2.1,a.2.2.1,a.2.2.2.1⟩) (λa=>by simp[kb]) (λa=>by unfold DP;dsimp only;omega)).lt (yS k)
def rcR:Rc H enc w spare held k 35 recC (λr=>1+wt r.type+fA r.rules):=
 ((Rc.struct (fs:=pC 35) (oh:=[3,31,29]) (by kernel_rfl) (by kernel_rfl) (by kernel_rfl) (.cons oN (.cons (Co k) (.cons aw6 .nil)))).map (λa=>⟨a.1,a.2.1,a.2.2.1⟩) (λa=>rfl) (λa=>by dsimp only;omega)).lt (yS k)
def rcD:Rc H enc w spare held k 38 cN dH:=by
 refine((Rc.struct (fs:=pC 38) (oh:=[3,9,3,31,31,3,33,35,36]) (by kernel_rfl) (by kernel_rfl) (by kernel_rfl) (.cons oN (.cons DS (.cons oN (.cons (Co k) (.cons (Co k) (.cons oN (.cons ((Rc.Ax (by kernel_rfl) (by kernel_rfl) rcC).lt (yS k)) (.cons rcR (.cons ((Rc.Ax (by kernel_rfl) (by kernel_rfl) rcF).lt (yS k)) .nil)))))))))).map (λa=>⟨a.1,a.2.1,a.2.2.1,a.2.2.2.1,a.2.2.2.2.1,a.2.2.2.2.2.1,a.2.2.2.2.2.2.1,a.2.2.2.2.2.2.2.1,a.2.2.2.2.2.2.2.2.1⟩) (λa=>?_) (λa=>?_)).lt (yS k)
 .simp;exact⟨rfl,rfl⟩
 .unfold dH;dsimp only;omega
def avo:Rc H enc w spare held k 22 (λl:List zB=>[bw l]) eP:=((Rc.Ax (by kernel_rfl) (by kernel_rfl) rcD).map id (λl=>rfl) (λl=>yS _)).lt (yS k)
def atk:Rc H enc w spare held k 23 (λv:{v:E//bH v}=>[v.1]) (λ_=>0):=
 ((Rc.Ax (e:=384) (by kernel_rfl) (by kernel_rfl) ((Rc.struct (fs:=pC 384) (oh:=[9,66]) (by kernel_rfl) (by kernel_rfl) (by kernel_rfl) (.cons DS (.cons ((Rc.acN (by kernel_rfl) (by kernel_rfl) oN aq5).lt (yS k)) .nil))).lt (yS k))).map (λl=>⟨cp (l.map λa:ByteArray×List Int×Unit=>aAg [zN a.1,cp (a.2.1.map λi=>J i) 0 (I a.2.1) []]) 0 (I l) [],.data _ _ _ _ (map_pure (λa=>.agg (.Cs bJ (.Cs (.data _ _ _ _ (map_pure (λ_=>.Gd rfl) _)) .Nl))) l)⟩) (λ_=>rfl) (λ_=>ya _)).lt (yS k)
def atl:Rc H enc w spare held k 25 (λv:{v:E//bH v}=>[v.1]) (λ_=>0):=
 ((Rc.Ax (e:=386) (by kernel_rfl) (by kernel_rfl) ((Rc.struct (fs:=pC 386) (oh:=[24,3,3,9]) (by kernel_rfl) (by kernel_rfl) (by kernel_rfl) (.cons KH (.cons oN (.cons oN (.cons DS .nil))))).lt (yS k))).map (λl=>⟨cp (l.map λa:List ByteArray×Int×Int×ByteArray×Unit=>aAg [bL a.1,J a.2.1,J a.2.2.1,zN a.2.2.2.1]) 0 (I l) [],.data _ _ _ _ (map_pure (λa=>.agg (.Cs (lj _) HY)) l)⟩) (λ_=>rfl) (λ_=>ya _)).lt (yS k)
def adt{f:A->E}{l:List A}(h:VR u (cp (l.map f) 0 (I l) []) v):∃x:NL A,x.l=l/\VR u (jw f x) v:=by
 cases l with
 |cons a l=>exact⟨⟨a::l,G⟩,rfl,h⟩
 |nil=>
  have c:VR u (.func (.via 0 #[] 0 G) ⟨[]⟩ ⟨[]⟩) v:=h;cases c with
  |data i j k n o d=>exact⟨⟨[],G⟩,rfl,.gi (λe=>by cases e) (.inr (.inr rfl))⟩
  |@gi _ _ _ b _ a g d=>exact⟨⟨[],a.isNone⟩,rfl,.gi g (.inr (.inr rfl))⟩
def aw7:Rc H enc w spare held k 27 (λs:List zB×{v:E//bH v}×List ByteArray×List ByteArray×{v:E//bH v}×List ByteArray×List ByteArray×Unit=>[bw s.1,s.2.1.1,bL s.2.2.1,bL s.2.2.2.1,s.2.2.2.2.1.1,bL s.2.2.2.2.2.1,bL s.2.2.2.2.2.2.1]) (λs=>eP s.1+I s.2.2.1+I s.2.2.2.1):=
 ((Rc.struct (fs:=pC 27) (oh:=[22,23,24,24,25,24,24]) (by kernel_rfl) (by kernel_rfl) (by kernel_rfl) (.cons avo (.cons atk (.cons KH (.cons KH (.cons atl (.cons KH (.cons KH .nil)))))))).map id (λ_=>rfl) (λa=>by dsimp only[id];omega)).lt (yS k)
end
end
section
open Go.Am Go.Proofs Go.Am.Sym Go.Am.Eu
open Go.ChangeShapes Go.WideShapes Go.ChangeAt Go.RowKit
def alQ(x:iE)(c:x.Ok)(w:zu)(d:VR (kJ w) x.dO v)(f:VR (kJ w) (D x.t) N):
 Calls prog 3 ⟨[v,N]⟩ w λe g=>e=.returned (zP Y)/\Go.Am.Kept w g:=by
 let⟨C,n,h,i,e⟩:=aw4 x c;exact ah2 tok (pI tok i n) rfl e w (.Cs d (.Cs f .Nl))
def own:ownKnob prog.godebug=U:=by kernel_rfl
def aoL{b:zu}(k:Go.Am.Kept W b)(a:vj->Prop):W.keptBut b a:=by
 refine⟨k.same.os,k.same.output,λi c=>?_⟩;rw[k.cD i c];cases h:W.heap[i]? with
 |none=>rfl
 |some o=>cases o<;>simp
def aq6{c:zu}(k:Go.Am.Kept W c){p:vj}(d:p.block<W.heap.size):W.sameAt c p:=by
 cases p with
 |cell b a=>
  show c.cell? ⟨b,a,U⟩=W.cell? ⟨b,a,U⟩;unfold tC;rw[k.cD b d]
 |map b=>exact k.cD b d
def Z1{H:Type}{a:zQ×E->H}{P:zo}{w d:zu}{base:Nat}{spare:Nat->Bool}{held:Bool}:∀{f:List zQ}{g:List E}{i:List (sa H)}{b:List vj},uW a P w base spare held f g i b->(∀p∈b,w.sameAt d p)->uW a P d base spare held f g i b
 |[],[],[],_,h,_=>h
 |_::_,_::_,_::_,_,⟨p,q,⟨n,k⟩,l,e⟩,j=>⟨p,q,⟨n,DataW.trod_carry n _ _ _ k (λx c=>j x (by rw[e];exact List.mem_append_left _ c))⟩,Z1 l (λx c=>j x (by rw[e];exact List.mem_append_right _ c)),e⟩
def kids:Kids prog (·<prog.types.size):=kids_rows (by kernel_rfl) (by kernel_rfl)
def full:∀t e,t<prog.types.size->prog.underlying t=O (.slice e)->0<prog.cellsOf e:=slices_full_of prog (by kernel_rfl)
def params3:f3.params= #[27,31]:=rfl
def aaX{c:zQ×E->A}{spare:Nat->Bool}{d:Type}{e:d->List E}{f:d->Nat}(h:∀k,Rc A c W spare b k t e f){g:Array E}{x:sa A×List vj}
 (q:vF c prog W 0 spare b n t (yu g).cells.toList=O x):∃a,VR (kJ W) (aAg (e a)) (yu g)/\f a<=Rows.uptoBulk x.1:=by
 let⟨a,h1,i⟩:=h (n+1) n (by omega) _ _ q;exact⟨a,.agg h1,i⟩
def alR(H:Type)(c:zQ×E->H)(W:zu)(base:Nat)(args:Array E)(k L:List (sa H))(before:List vj)
 (b:∀(j:Nat) t v,f3.params[j]?=O t->args[j]?=O v->Value.okWide prog W .any base t v)
 (M:DataW.Whole c prog f3.params.toList Rows.instancesLastSpec.vars G W args.toList k L before)(T:Rows.uptoSmall H (k++L)=Y):
 Calls prog 3 args W λe N=>∃v,e=.returned v/\Rows.instancesLastSpec.post c prog f3 G Y G G W args v N:=by
 have l:=M;obtain⟨p,q,d,V,rfl,X,rm⟩:=M;have P:uW c prog W 0 (λ_=>Y) Y f3.params.toList args.toList k p:=d;rw[params3]at P b;obtain⟨Q,vs0,d0,ds0,p0,q0,m,rfl,rfl,⟨n0,h0⟩,r0⟩:=trodAll_cons P;obtain⟨R,vs1,d1,ds1,p1,q1,rfl,rfl,rfl,⟨n1,h1⟩,r1⟩:=trodAll_cons r0;obtain⟨rfl,rfl,rfl⟩:=trodAll_nil r1;obtain rfl:args= #[Q,R]:=by cases args;simp_all
 obtain⟨rfl,rfl⟩:=trodVars_none V;obtain⟨n,rfl,_⟩:=okWide_struct (fs:=pC 27) (by kernel_rfl) (b 0 27 Q rfl rfl);obtain⟨o,rfl,_⟩:=okWide_struct (fs:=pC 31) (by kernel_rfl) (b 1 31 R rfl rfl);let⟨⟨r,⟨impl,hi⟩,f,s,⟨lL,hn⟩,S,i,_⟩,a,u⟩:=aaX (λ_=>aw7) h0;let⟨t,w,y⟩:=aaX Co h1
 have hb:Rows.uptoBulk d0+Rows.uptoBulk d1<=1048576:=by have this:=T;unfold Rows.uptoSmall at this;rw[decide_eq_true_eq]at this;simp only[List.append_nil,Rows.uptoBulkAll]at this;omega
 have A:=d.lt;dsimp only at a u y
 obtain⟨g,rfl,h,rfl,hz⟩:∃g:NL zB,g.l=r/\∃h:NL ByteArray,h.l=s/\VR (kJ W) (iE.dO ⟨g,impl,f,h,lL,bL S,bL i,t⟩) (yu n):=by
  cases a with
  |agg a=>cases a with
   |Cs e1 a=>cases a with
    |Cs e2 a=>cases a with
     |Cs e3 a=>cases a with
      |Cs e4 a=>
       let⟨g,k1,k2⟩:=adt e1;let⟨h,k3,k4⟩:=adt e4;exact⟨g,k1,h,k3,.agg (.Cs k2 (.Cs e2 (.Cs e3 (.Cs k4 a))))⟩
 have w:VR (kJ W) (D t) (yu o):=by rw[eD];exact w
 refine(alQ ⟨g,impl,f,h,lL,bL S,bL i,t⟩ ⟨hi,hn,lj _,lj _,by show I f<_;omega,by show eP g.l+wt t<_;omega,by show I h.l<_;omega⟩ W hz w).mono λe N⟨he,B⟩=>?_;subst he
 refine⟨_,rfl,post_of_same (pv:=[]) l (λ_ _ _=>(trodAll_cons_mk (shut_bool W9 _) trodAll_mk0)) (λsp C=>DataW.TrodAll.respare kids full (by rw[params3];decide+kernel) (Z1 d λx F=>aq6 B (A x F)) (λx F=>C x (by simpa using F))) (λ_ _=>rfl) (by simp)
  (aoL B _) B.same.frozen (ok_one (by kernel_rfl) rfl (okWide_bool_mk W9 _))⟩
end
end Go.Proofs.YtpeialehpoilbaaGreat
