/- A part of the proof of InstancesLastUptoSaid: see the last text. -/
import Derived.Test.YtpeialehpoilbaaGreatAd
import Derived.Test.YtpeialehpoilbaaGreatAe
set_option linter.all false
noncomputable section
set_option maxRecDepth 100000
open Bool renaming and_eq_true->zX,false->G,true->Y
open Go.Am.ai renaming cells->K
open Go renaming Code->yG,Deferred->zc,PanicEntry->zO,TypeId->zQ,Value->E,FuncId->zZ
open Go.Code renaming block->zv,loop->yb,region->yM,seq->zS,skip->we
open Go.TypeDesc renaming slice->zf
open Go.Value renaming bool->zP,pointer->zM,slice->zL,string->zN,func->zU,nilFunc->zj,nilIface->wo
open List renaming drop_zero->yY,getElem_mem->zW,length->I,mem_map->xp,drop_eq_nil_of_le->yN,flatten_cons->uC,replicate->xI,replicate_succ->xj,set_append_right->tA,take_of_length_le->yI,drop_eq_getElem_cons->yK,getElem?_eq_some_iff->yf,length_append->yD,length_singleton->wJ,getElem?_eq_getElem->zm,getElem?_map->vu,length_pos_iff->tU,mem_cons->zp,length_cons->yo,mem_iff_getElem->yk,map_cons->xK,take_succ_cons->wg
open Nat renaming beq->zV,ble->ze,ble_eq_true_of_le->zb,le_refl->zR,mul->z7,zero_add->xF,lt_succ_self->yL
open Option renaming none->U,some->O
open Except renaming error->yZ
open Go.IntKind renaming i64->zx
open Go.Fn renaming func->za
open Go.ResultVar renaming cell->yB
open Decidable renaming decide->yF
open Int renaming toNat_of_nonneg->wk
open Go Go.Am Go.Proofs Go.Am.Sym Go.Am.Eu
open Go.Proofs.Tryz
variable{n k m i j:Nat}
variable{v N:Go.Value}
variable{t s:Go.TypeId}
variable{r q:Go.Am.Tr Go.Value}
variable{c e:Int}
variable{y:List Go.Am.Eu.zA}
variable{l p:List Go.Value}
variable{a d:Go.Am.Eu.zA}
variable{f:Go.FuncId}
variable{h g:Go.Am.H}
variable{u:Go.Am.M}
variable{o:Option (List Go.PanicEntry)}
variable{b:Bool}
variable{C:Go.Am.aV}
variable{x:Go.Code}
variable{A:Type}
variable{L:A->Prop}
variable{B:Nat->Option Go.Am.ai}
variable{V:Go.Am.zC->Go.Am.ag}
namespace Go.Am.Eu
abbrev Raw:=Int×Option (Nat×Nat)
def adN:Option (Nat×Nat)->E
 |none=>zL U 0 0
 |some (b,n)=>zL (pO b) n n
def BN(r:Raw):E:=aAg [J r.1,adN r.2]
def RL(h:H)(r:Raw)(x:aB):Prop:=r.1=x.c/\match r.2 with
 |none=>x.v=[]
 |some (b,n)=>n=I x.v/\b<h.n/\h.g b=O (K (zF cW x.v) 96 Y)
def Hw(r:Raw)(v:E):Prop:=∀b n,r.2=O (b,n)->3<=b/\dz v b
def zA.bare:zA->zA
 |.mk k i n a _=>.mk k i n a []
def abp{t:zA}:t.bare=.mk t.w t.Q t.F t.H []:=by cases t;rfl
def mD(t:zA):Prop:=I t.H<1000000/\∀x∈t.H,I x.v<1000000
end Go.Am.Eu
namespace Go.Proofs.YtpeialehpoilbaaGreat
def O0:El Z 63 BN 2:=⟨by omega,by kernel_rfl,by kernel_rfl,λx=>rfl,λx=>by
 let⟨c,r⟩:=x;cases r with
 |none=>rfl
 |some q=>rfl⟩
def avP:El Z 96 cW 2:=⟨by omega,by kernel_rfl,by kernel_rfl,λx=>rfl,λx=>rfl⟩
def O1:El Z 63 aT 2:=⟨by omega,by kernel_rfl,by kernel_rfl,λx=>rfl,λx=>rfl⟩
def ac6(h:H)(l:List ga)(n:I l<=1073741824):jO Z h (fq l) (O (zf 96)) (O (zf 96)) (zL U 0 0) (O (I l))=
 if l=[]then .v (zL U 0 0) h else .v (zL (pO h.n) (I l) (I l)) (h.w (K (zF cW l) 96 Y)):=by
 have a:=avP;have b:=a.cw;cases c:Z.cw.g 96 with
 |none=>rw[c]at b;cases b
 |some i=>
  rw[c]at b;simp at b;have d:zV i.size 0=G:=jh (by have:=a.pos;omega);have e:ze i.bytes 65536=Y:=zb b.2;have g:zV (dh (zF cW l)) (z7 (I l) 2)=Y:=by rw[fX];exact ek (a.ia l)
  have j:zH h (I l) 2 (fq l)=O (zF cW l):=by have:=Ju (enc:=cW) (sz:=2) (h:=h) (l:=l) (off:=0) (fG:=[]) (p:= #[]) (k:=I l);rw[yY,List.take_length]at this;exact this
  show jy Z h 96 (zL U 0 0) (fq l) U 0 0 (I l) (Z.cw.g 96)=_;rw[c];unfold jy;dsimp only;have f:ze (Nat.add 0 (I l)) 1073741824=Y:=zb (by show 0+I l<=_;omega);rw[d,e,f,a.zero,b.1,j];have m:zV (dh ([]:List E)) (z7 0 2)=Y:=rfl;show cond (cond (zV (dh (zF cW l)) (z7 (I l) 2)) (cond (zV (dh ([]:List E)) (z7 0 2)) (da (zF cW l)) G) G) (bN (kO h 96 (I l) (zF cW l)) (.v (zL U 0 0) h) (zV (I l) 0)) .f=_;rw[g,m,a.qA];cases l with
  |nil=>rfl
  |cons x l=>rfl
@[simp] theorem aBU{l:List ga}:lenOf (fq l)=O (I l):=rfl
def aj8(h:H):jO Z h (fq []) (O (zf 96)) (O (zf 96)) (zL U 0 0) (O 0)=.v (zL U 0 0) h:=by have:=ac6 h [] (by simp);simpa using this
def avQ:Am.zI Z 28=O 1:=by kernel_rfl
def aaw{h:H}{c d i f:E}{g:Bool}(j:ae h k (K [N,c,d,i,f] s g))(a:Option Addr)(n m:Nat):
 zG Z h 28 (zL a n m) (zM (O ⟨k,3,U⟩))=O (h.p k (K [N,c,d,zL a n m,f] s g)):=by
 rw[dY (v:=zL a n m) (n:=1) (off:=3) avQ rfl rfl j (by show 4<=5;omega)];rfl
def Fq{h:H}{x:aB}{w:E}{g:Bool}(a:ae h k (K [N,w] s g)):zG Z h 63 (aT x) (pB k)=O (h.p k (K (ah (aT x)) s g)):=by rw[dY (v:=aT x) (n:=2) (off:=0) AZ rfl rfl a (by show 2<=2;omega)];rfl
def F145:Z.f 145=O f145:=by kernel_rfl
def mw:yG:=z f145 [Y,Y,G,Y,G,G]
def YK:f145.body=O (zS (z f145 pF0) (zS (z f145 pF1) (zS (zS (z f145 [Y,Y,G,G]) (zv 0 (yb mw))) (z f145 pT3)))):=rfl
def HL:Array Oper:=bq (ak [Y,Y,G,G,Y] mw)
def aha:mw=zS (ak [G] mw) (zS (ak [Y,G] mw) (zS (zv 1 (zS (ak [Y,Y,G,G,G] mw) (yM 5 HL Y))) (ak [Y,Y,Y] mw))):=rfl
def pR:Tr Nat:=bj HL.toList 0 .Nl
def arS:(aN (aE pR 9) 1&&aN (aE pR 9) 3&&aN (aE pR 9) 5&&aN (aE pR 9) 6&&aN (aE pR 9) 8)=Y:=by kernel_rfl
def apq:(aN (aE pR 11) 1&&aN (aE pR 11) 3&&aN (aE pR 11) 5&&aN (aE pR 11) 6&&aN (aE pR 11) 8&&aN (aE pR 11) 9)=Y:=by kernel_rfl
structure oE(t:zA)(i k:Nat)(tm:Tr E)(h:H):Prop where
 base:h.b=0
 next:3<=h.n
 cell:h.g 0=O (K (ah (D t)) 31 G)
 out:h.g 1=O (K z5 31 G)
 le:i<=I t.H
 bO:∃v rs,h.g 2=O (K [J t.w,J t.Q,zN t.F,v,zL U 0 0] 31 G)/\eu BN 63 v h rs/\dz v 0/\dz v 1/\dz v 2/\I rs=i/\
  ∀j(hj:j<I rs)(hl:j<I t.H),RL h rs[j] t.H[j]/\Hw rs[j] v
 t1:tm.g 1=O (zM (O ⟨0,0,U⟩))
 t2:tm.g 2=O (zM (O ⟨1,0,U⟩))
 t3:tm.g 3=O (zM (O ⟨2,0,U⟩))
 t14:tm.g 14=O (aO t.H)
 t15:tm.g 15=O (J (I t.H:Nat))
 t16:tm.g 16=O (J k)
def adO(h:H)(a b:E):iQ Z h 1 (O (zf 63)) (O [(0,aAg [a,b])])=.v (zL (pO h.n) 1 1) (h.w (ad [a,b] 63)):=by kernel_rfl
def ac7(h:H)(c:Int)(a:Option Addr)(n m:Nat):eK Z h 63 (O (aAg [J 0,zL U 0 0])) (O [(0,J c),(1,zL a n m)])=.v (aAg [J c,zL a n m]) h:=by kernel_rfl
@[simp] theorem z63:zero Z 63=O (aAg [J 0,zL U 0 0]):=by kernel_rfl
section
variable{t:zA}{i:Nat}{h hF:H}
def abq{v':E}{a:List Raw}{r:Raw}(h3:3<=h.n)(L:h.g 0=O (K (ah (D t)) 31 G))(M:h.g 1=O (K z5 31 G))(F:dz v 0)(H:dz v 1)(N:dz v 2)(g:I a=i)(P:i<I t.H)
 (l:∀j(m:j<I a)(g:j<I t.H),RL h a[j] t.H[j]/\Hw a[j] v)
 (o:hF.b=0)(Q:h.n<=hF.n)(gl:∀j,j<h.n->dz v j->j≠2->hF.g j=h.g j)(p:hF.g 2=O (K [J t.w,J t.Q,zN t.F,v',zL U 0 0] 31 G))
 (f:eu BN 63 v' hF (a++[r]))(c:∀j,j<h.n->dz v j->dz v' j)(R:RL hF r t.H[i]/\Hw r v')
 (S:q.g 1=O (zM (O ⟨0,0,U⟩)))(T:q.g 2=O (zM (O ⟨1,0,U⟩)))(V:q.g 3=O (zM (O ⟨2,0,U⟩)))(s:q.g 14=O (aO t.H))(u:q.g 15=O (J (I t.H:Nat)))(w:q.g 16=O (J k)):
 oE t (i+1) k q hF:=by
 refine⟨o,by omega,by rw[gl 0 (by omega) F (by omega)];exact L,by rw[gl 1 (by omega) H (by omega)];exact M,P,⟨v',a++[r],p,f,c 0 (by omega) F,c 1 (by omega) H,c 2 (by omega) N,by simp[g],λj m x=>?_⟩,S,T,V,s,u,w⟩;by_cases e:j<I a
 .rw[List.getElem_append_left e];obtain⟨⟨W,d⟩,y⟩:=l j e x;refine⟨⟨W,?_⟩,λb n A=>⟨(y b n A).1,?_⟩⟩
  .cases B:(a[j]).2 with
   |none=>rw[B]at d;exact d
   |some X=>
    obtain⟨b,n⟩:=X;rw[B]at d;obtain⟨q4,q5,q6⟩:=d;obtain⟨q7,q8⟩:=y b n B;exact⟨q4,by omega,by rw[gl b q5 q8 (by omega)];exact q6⟩
  .have:b<h.n:=by rw[A]at d;exact d.2.1
   exact c b this (y b n A).2
 .have C:j=I a:=by simp at m;omega
  subst C;have:(a++[r])[I a]'m=r:=by simp
  rw[this];simp only[g];exact R
end
section
variable{ev:zC->ag}{t:zA}{i:Nat}{tm:Tr E}{h:H}
def amE(st:oE t i i tm h)(hi:i<I t.H)(hv:I t.H[i].v<=1073741824)(hn:i+1<=1073741824)(hB:n+1=h.n)(hB3:3<=n)(hBg:h.g n=O (K (ah (aT t.H[i])) 63 G))(t5:tm.g 5=O (zM (O ⟨n,0,U⟩)))
 (avR:∀v,h.g 2=O (K [J t.w,J t.Q,zN t.F,v,zL U 0 0] 31 G)->dz v n):
 aD (λV8 h'=>oE t (i+1) i V8 h') (λ_ _=>False) (λ_ _ _=>False) (jN Z ev ⟨145,U⟩ HL Y ⟨tm,[],h,U⟩):=by
 obtain⟨y,h3,W,c,hle,⟨v,rs,h2,hs,v0,v1,X,hl,hrs⟩,t1,t2,t3,t14,t15,t16⟩:=st;have hvB:=avR v h2;rw[dJ];have b9:=arS;have Qc:=apq;simp only[zX]at b9 Qc;obtain⟨⟨⟨⟨A,C⟩,F⟩,L⟩,M⟩:=b9;obtain⟨⟨⟨⟨⟨d,f⟩,o⟩,p⟩,s⟩,u⟩:=Qc;have e:bj HL.toList 0 .Nl=pR:=rfl;rw[e];generalize pR=bs at*;have l2:2<h.n:=by omega
 have lB:n<h.n:=by omega
 have n2:¬2=h.n:=by omega
 have Q:¬h.n=2:=by omega
 have nB:¬n=h.n:=by omega
 have nB':¬h.n=n:=by omega
 have nB2:¬n=2:=by omega
 have nB3:¬2=n:=by omega
 have d11:∀(k:List aG->S->ag)(l:List aG)(tm:Tr E)(R:List zc)(h c:H)(T:Option (List zO)),h.b=0->lJ (aE bs 11) l=Y->gG k bs l 11 tm R h T c=k (nG 11 c.rd (di h c) l) ⟨tm,R,h.mY c,T⟩:=λk l tm R h c T y ha=>EQ y ha;have d9:∀(k:List aG->S->ag)(l:List aG)(tm:Tr E)(R:List zc)(h c:H)(T:Option (List zO)),h.b=0->lJ (aE bs 9) l=Y->gG k bs l 9 tm R h T c=k (nG 9 c.rd (di h c) l) ⟨tm,R,h.mY c,T⟩:=λk l tm R h c T y ha=>EQ y ha;have a5:=ac6;by_cases hx:t.H[i].v=[]
 .have w:=eu.adG (x:=zL (O ⟨h.n,0,U⟩) 1 1) (m:=[((t.H[i].c,U):Raw)]) (e2:=63) O0 (h:=(h.w (K [J t.H[i].c,zL U 0 0] 63 G)).f) (v:=v) (l:=rs) (hs.OS (by simp) λj V=>by
   have:¬j=h.n:=by omega
   simp[this]) (by simp[hl];omega) (O0.R0 (e':=63) (g:=G) (by simp;rfl))
  obtain⟨v',h',w,k1,k2,k3,N,P⟩:=w;obtain⟨va,vn,vm,rfl⟩:=k1.form;simp at w k2 k3 N P;have g2:=N 2 (by omega) X;simp[n2,h2]at g2;have sg:=λ(W:H)(q:W.g 2=O (K [J t.w,J t.Q,zN t.F,v,zL U 0 0] 31 G))=>aaw q va vn vm;simp+contextual [HL,bq,mw,z,ak,sub,f145,t1,t2,t3,t5,y,h2,hBg,VY,hx,l2,lB,a5,aj8,adO,ac7,w,cV,cY,cZ,dc,dt,cO,cR,n2,Q,nB,nB',nB2,nB3,d9,d11,A,C,F,L,M,d,f,o,p,s,u,MW,g2,sg,Zk];refine abq (v':=zL va vn vm) (r:=(t.H[i].c,U)) h3 W c v0 v1 X hl hi hrs (by simp[y]) (by simp;omega) (λj V q q2=>?_) (by simp) (k1.mono (by simp) λj V q=>?_) (λj V q=>P j (by omega) q) ⟨⟨rfl,hx⟩,λb a q=>by cases q⟩ (by simp[t1]) (by simp[t2]) (by simp[t3]) (by simp[t14]) (by simp[t15]) (by simp[t16])
  .have e1:¬j=h.n:=by omega
   simp[q2,N j (by omega) q,e1]
  .have e2:¬j=2:=λe=>q (e▸P 2 (by omega) X);simp[e2]
 .obtain⟨a,hn⟩:∃a,I t.H[i].v=a:=⟨_,rfl⟩;have V9:n<h.n+1:=by omega
  have n4:¬h.n=h.n+1:=by omega
  have n5:¬h.n+1=h.n:=by omega
  have n6:¬2=h.n+1:=by omega
  have n7:¬h.n+1=2:=by omega
  have n8:¬n=h.n+1:=by omega
  have n9:¬h.n+1=n:=by omega
  have w:=eu.adG (x:=zL (O ⟨h.n+1,0,U⟩) 1 1) (m:=[((t.H[i].c,O (h.n,a)):Raw)]) (e2:=63) O0 (h:=((h.w (K (zF cW t.H[i].v) 96 Y)).w (K [J t.H[i].c,zL (O ⟨h.n,0,U⟩) a a] 63 G)).f) (v:=v) (l:=rs) (hs.OS (by simp;omega) λj V=>by
   have q1:¬j=h.n:=by omega
   have q2:¬j=h.n+1:=by omega
   simp[q1,q2]) (by simp[hl];omega) (O0.R0 (e':=63) (g:=G) (by simp;rfl))
  obtain⟨v',h',w,k1,k2,k3,N,P⟩:=w;obtain⟨va,vn,vm,rfl⟩:=k1.form;simp at w k2 k3 N P;have g2:=N 2 (by omega) X;simp[n2,n6,h2]at g2;have sg:=λ(W:H)(q:W.g 2=O (K [J t.w,J t.Q,zN t.F,v,zL U 0 0] 31 G))=>aaw q va vn vm;have a5':=λh=>a5 h t.H[i].v hv;simp[hx,hn]at a5';simp+contextual [HL,bq,mw,z,ak,sub,f145,t1,t2,t3,t5,y,h2,hBg,VY,hx,l2,lB,V9,a5',hn,adO,ac7,w,cV,cY,cZ,dc,dt,cO,cR,n2,Q,nB,nB',nB2,nB3,n4,n5,n6,n7,n8,n9,d9,d11,A,C,F,L,M,d,f,o,p,s,u,MW,g2,sg,Zk];have gN:=N h.n (by omega) (dz.of_lt hs (zR _));simp[n4]at gN;have avS:=P h.n (by omega) (dz.of_lt hs (zR _))
  refine abq (v':=zL va vn vm) (r:=(t.H[i].c,O (h.n,a))) h3 W c v0 v1 X hl hi hrs (by simp[y]) (by simp;omega) (λj V q q2=>?_) (by simp) (k1.mono (by simp) λj V q=>?_) (λj V q=>P j (by omega) q)
   ⟨⟨rfl,hn.symm,by simp;omega,by simp[Q,gN]⟩,λb a q=>by injection q with q;cases q;exact⟨h3,avS⟩⟩ (by simp[t1]) (by simp[t2]) (by simp[t3]) (by simp[t14]) (by simp[t15]) (by simp[t16])
  .have e1:¬j=h.n:=by omega
   have e2:¬j=h.n+1:=by omega
   simp[q2,N j (by omega) q,e1,e2]
  .have e2:¬j=2:=λe=>q (e▸P 2 (by omega) X);simp[e2]
def ZD(l:oE t i i tm h)(p:i<I t.H)(m:mD t):
 aD (λa c=>oE t (i+1) (i+1) a c) (λ_ _=>False) (λ_ _ _=>False) (aw Z ev ⟨145,U⟩ mw ⟨tm,[],h,U⟩):=by
 have hlen:=m.1;have hv:=m.2 t.H[i] (zW p);have Q:=dA (show i+1<=ao by unfold ao;omega);simp at Q;let⟨r,s,o,h1,hle,⟨v,R,S,T,v0,v1,v2,hl,u⟩,w,y,A,f,g,e⟩:=l;have V:¬2=h.n:=by omega
 have n1:¬1=h.n:=by omega
 have n0:¬0=h.n:=by omega
 rw[aha];refine aS (N':=λa c=>a=tm.s 17 (zP Y)/\c=h) ?_ λa c⟨B,C⟩=>?_
 .simp[mw,z,f145,g,e,p]
 rw[B,C];refine aS (N':=λa c=>a=tm.s 17 (zP Y)/\c=h) ?_ λa c⟨B,C⟩=>?_
 .simp[mw,z,f145,an]
 rw[B,C];refine aS (N':=λa c=>oE t (i+1) i a c) ?_ λa c l=>?_
 .rw[hU];refine D8 (aS (N':=λa c=>oE t i i a c/\c.n=h.n+1/\c.g h.n=O (K (ah (aT t.H[i])) 63 G)/\a.g 5=O (zM (O ⟨h.n,0,U⟩))/\c.g 2=h.g 2) ?_ λa c⟨l,F,k,L,M⟩=>?_)
  .have N:=λ(o:H)(b:Nat)(q:o.g b=O (K [J 0,zL U 0 0] 63 G))=>Fq (x:=t.H[i]) q;simp[mw,z,f145,f,e,p,N,V];refine⟨by simp[r],by simp;omega,by simp[n0,o],by simp[n1,h1],hle,⟨v,R,by simp[V,S],T.OS (by simp) (λj W=>?_),v0,v1,v2,hl,λj W P=>?_⟩,by simp[w],by simp[y],by simp[A],by simp[f],by simp[g],by simp[e]⟩
   .have:¬j=h.n:=by omega
    simp[this]
   .let⟨⟨F,k⟩,L⟩:=u j W P;refine⟨⟨F,?_⟩,L⟩;cases X:(R[j]).2 with
    |none=>rw[X]at k;exact k
    |some bn=>
     let⟨b,n⟩:=bn;rw[X]at k;let⟨M,q5,q6⟩:=k;have:¬b=h.n:=by omega
     exact⟨M,by simp;omega,by simp[this,q6]⟩
  .rw[eg];refine(amE l p (by omega) (by omega) F.symm s k L (λv' d=>?_)).Mo (λ_ _ q=>q) (λ_ _ q=>q.elim) (λ_ _ _ q=>q.elim);rw[M,S]at d;injection d with d;injection d with d;simp at d;subst d;exact dz.of_lt T (zR _)
 .let⟨r,s,o,h1,hle,hc,w,y,A,f,g,e⟩:=l;simp[mw,z,f145,e,Q];exact⟨r,s,o,h1,hle,hc,by simp[w],by simp[y],by simp[A],by simp[f],by simp[g],by simp⟩
def aax(c:oE t i i tm h)(k:I t.H<=i):
 aD ap ap (λj a d=>j=0/\oE t i i a d) (aF Z ev 145 mw tm h):=by
 let⟨e,f,h0,h1,hle,g,t1,t2,t3,t14,t15,t16⟩:=c;have b:¬i<I t.H:=by omega
 simp[mw,z,f145,t15,t16,b,an];exact⟨e,f,h0,h1,hle,g,by simp[t1],by simp[t2],by simp[t3],by simp[t14],by simp[t15],by simp[t16]⟩
end
def ace{h:H}{i:Int}{n:ByteArray}:eK Z h 31 (O (aAg [J 0,J 0,zN ⟨#[]⟩,zL U 0 0,zL U 0 0])) (O [(0,J c),(1,J i),(2,zN n)])=.v (aAg [J c,J i,zN n,zL U 0 0,zL U 0 0]) h:=by kernel_rfl
def amF{h:H}{f:List Raw}{d:List aB}(s:eu BN 63 v h f)(g:I f=I d)(i:∀j(l:j<I f)(g:j<I d),RL h f[j] d[j]):DV h.g v (aO d):=by
 have m:∀(f:List Raw)(d:List aB),I f=I d->(∀j(l:j<I f)(g:j<I d),RL h f[j] d[j])->DL h.g (f.map BN) (d.map aT):=by
  intro f;induction f with
  |nil=>intro d g _;cases d with
   |nil=>exact .Nl
   |cons _ _=>simp at g
  |cons r f t=>intro d g i;cases d with
   |nil=>simp at g
   |cons x d=>
    refine .Cs ?_ (t d (by simpa using g) λj l o=>i (j+1) (by simpa using l) (by simpa using o));let⟨p,k⟩:=i 0 (by simp) (by simp);simp at p k;let⟨c,q⟩:=r;simp at p k;subst p;refine .agg (.Cs eI (.Cs ?_ .Nl));cases q with
    |none=>rw[k];exact .cP
    |some u=>
     let⟨b,n⟩:=u;obtain⟨rfl,F,w⟩:=k
     exact .slice (pre:=[]) (post:=[]) (es:=x.v.map cW) (sz:=2) (e:=96) (gr:=Y) (by rw[w,qB];simp) rfl (λy A=>by obtain⟨a,_,rfl⟩:=xp.1 A;rfl) (by simp) (zR _) (DL.pure (map_pure Rx x.v))
 rcases s with⟨rfl,rfl⟩|⟨b,L,rfl,B⟩
 .cases d with
  |nil=>exact .cP
  |cons _ _=>simp at g
 .unfold aO;rw[<-g];refine .slice (pre:=[]) (post:=[]) (es:=f.map BN) (sz:=2) (e:=63) (gr:=Y) (by rw[B,qB];simp) rfl (λx C=>?_) (by simp) (zR _) (m f d g i);obtain⟨y,_,rfl⟩:=xp.1 C;rfl
def NE:kg Z prog 145 mD (λt=>[D t]) (λt=>.ret (D t.bare)):=by
 intro t w g;refine mi tok cg aW (.Cs (bg t) .Nl) (I t.H+3) F145 YK rfl ?_ g
 have x:aD (λtm h=>False) (λtm h=>∃v,h.b=0/\aa tm 2 (pB 1)/\ae h 1 (ad [J t.w,J t.Q,zN t.F,v,zL U 0 0] 31)/\da [v]=Y/\DV h.g v (aO t.H)) bE
  (aF Z (af Z cg (I t.H+3+1)) 145 (zS (z f145 pF0) (zS (z f145 pF1) (zS (zS (z f145 [Y,Y,G,G]) (zv 0 (yb mw))) (z f145 pT3)))) (bF [D t] 0 .Nl) H.e):=by
  refine aS (N':=λtm h=>h=(H.e.w (ad (ah (D t)) 31)).w (ad z5 31)/\aa tm 1 (pB 0)/\aa tm 2 (pB 1)) ?_ λtm h⟨e,k,a⟩=>?_
  .simp[z,f145]
  subst e;refine aS (N':=λtm h=>h.b=0/\h.n=3/\ae h 0 (ad (ah (D t)) 31)/\ae h 1 (ad z5 31)/\ae h 2 (ad [J t.w,J t.Q,zN t.F,zL U 0 0,zL U 0 0] 31)/\aa tm 1 (pB 0)/\aa tm 2 (pB 1)/\aa tm 3 (pB 2)) ?_ λtm h⟨d,hn,y,l,A,k,a,B⟩=>?_
  .have s:=λ(g:H)(q:ae g 2 (ad z5 31))=>fp (c:=[J t.w,J t.Q,zN t.F,zL U 0 0,zL U 0 0]) rfl rfl q rfl;simp[z,f145,k,a,ace,s]
  refine aS (N':=λtm h=>oE t (I t.H) (I t.H) tm h) (aS (N':=λtm h=>oE t 0 0 tm h) ?_ λtm h f=>?_) λtm h f=>?_
  .simp[z,f145,k,d,y];exact⟨d,by omega,y,l,by omega,⟨_,[],A,eu.nil _,(λ_ _ _ q=>by cases q),(λ_ _ _ q=>by cases q),(λ_ _ _ q=>by cases q),rfl,λj r=>by simp at r⟩,by simp[k],by simp[a],by simp[B],by simp,by simp,by simp⟩
  .refine fU 3 (λj tm h=>∃i,j=I t.H-i/\i<=I t.H/\oE t i i tm h) (I t.H) ⟨0,by omega,by omega,f⟩ (by omega) ?_;rintro j tm h m ⟨i,rfl,hi,f⟩ hm;by_cases o:i<I t.H
   .exact(ZD f o w).Mo (λR h' q=>⟨_,by omega,i+1,rfl,o,q⟩) aP jr
   .refine(aax f (by omega)).Mo aP aP (λ_ _ _ q=>⟨q.1,?_⟩);have:i=I t.H:=by omega
    rw[this]at q;exact q.2
  .let⟨d,h3,y,l,_,⟨v,S,A,M,v0,T,v2,V,C⟩,k,a,B,t14,t15,t16⟩:=f;obtain⟨N,P,Q,rfl⟩:=M.form;have s:=λ(g:H)(q:ae g 1 (ad z5 31))=>fp (c:=[J t.w,J t.Q,zN t.F,zL N P Q,zL U 0 0]) rfl rfl q rfl;have p:=fh (c:=[J t.w,J t.Q,zN t.F,zL N P Q,zL U 0 0]) rfl;simp[z,f145,a,B,d,A,s,l,p];refine⟨rfl,?_⟩;refine amF (h:=h.p 1 _) (M.mono (by simp) λj r q=>?_) V λj r F=>?_
   .have:¬j=1:=λe=>q (e▸T);simp[this]
   .let⟨⟨W,u⟩,q3⟩:=C j r F;refine⟨W,?_⟩;cases L:(S[j]).2 with
    |none=>rw[L]at u;exact u
    |some X=>
     let⟨b,n⟩:=X;rw[L]at u;let⟨q4,q5,q6⟩:=u;have:¬b=1:=by have:=(q3 b n L).1;omega
     exact⟨q4,by simpa using q5,by simp[this,q6]⟩
 refine x.toQ aP (λtm h⟨v,d,a,l,one,hd⟩=>?_) cS;refine⟨rfl,rfl,aAg [J t.w,J t.Q,zN t.F,v,zL U 0 0],D t.bare,h,rfl,?_,?_⟩
 .simp[a,l,d,fh (c:=[J t.w,J t.Q,zN t.F,v,zL U 0 0]) rfl]
 .rw[abp,By];exact .agg (.Cs eI (.Cs eI (.Cs eI (.Cs hd (.Cs .cP .Nl)))))
end Go.Proofs.YtpeialehpoilbaaGreat
namespace Go.Am.Eu
inductive VO where
 |done (t:zA)
 |go (t:zA)
 |stop (e:Int)
def VO.mo:VO->MO
 |.done t=>.ret (aTu [D t,zP Y])
 |.go t=>.ret (aTu [D t,zP G])
 |.stop e=>.aU (cL e)
def zA.rN:zA->List zA->zA
 |.mk k i n a _,b=>.mk k i n a b
def GG{t:zA}:t.rN y=.mk t.w t.Q t.F t.H y:=by cases t;rfl
mutual
def dS(vo:zA->Int->VO):zA->Int->Except Int zA
 |.mk k i n ls ks,d=>match vo (.mk k i n ls ks) d with
  |.done u=>.ok u
  |.stop e=>yZ e
  |.go u=>match fH vo k 0 ks d with
   |.ok P7=>.ok (u.rN P7)
   |.error e=>yZ e
def fH(vo:zA->Int->VO)(k:Int)(i:Nat):List zA->Int->Except Int (List zA)
 |[],_=>.ok []
 |t::r,d=>match dS vo t (aL (d+eN k i))with
  |.error e=>yZ e
  |.ok t'=>match fH vo k (i+1) r d with
   |.ok r'=>.ok (t'::r')
   |.error e=>yZ e
end
def Hx(a:zA->Int->VO)(t:zA)(d:Int):dS a t d=match a t d with
 |.done u=>.ok u
 |.stop e=>yZ e
 |.go u=>match fH a t.w 0 t.M d with
  |.ok b=>.ok (u.rN b)
  |.error e=>yZ e:=by cases t;rw[dS];rfl
def Bh(a:zA->Int->VO){d:Int}:fH a c i [] d=.ok []:=by rw[fH]
def CC(a:zA->Int->VO){t:zA}{d:Int}:fH a c i (t::y) d=match dS a t (aL (d+eN c i))with
 |.error e=>yZ e
 |.ok b=>match fH a c (i+1) y d with
  |.ok f=>.ok (b::f)
  |.error e=>yZ e:=by rw[fH]
def dg:Except Int zA->MO
 |.ok t=>.ret (D t)
 |.error e=>.aU (cL e)
end Go.Am.Eu
namespace Go.Proofs.YtpeialehpoilbaaGreat
def F141:Z.f 141=O f141:=by kernel_rfl
def avT:jV Z 31=O z5:=by kernel_rfl
def avU:(bytesOf Z 31).map (λb=>ze b 65536)=O Y:=by kernel_rfl
def Pt(h:H)(d:n<=65536):A7 Z h (O (zf 31)) (O (J n)) (O (J n))=.v (zL (pO h.n) n n) (h.w (ad (jK z5 n) 31)):=by
 show Rl Z h 31 n n (bytesOf Z 31)=_;have a:=avU;cases c:bytesOf Z 31 with
 |none=>rw[c]at a;cases a
 |some b=>
  rw[c]at a;simp at a;show GA h 31 n n b (jV Z 31)=_;rw[avT];unfold GA;have e:ze n n=Y:=zb (zR n);have f:ze n 65536=Y:=zb d;have g:ze b 65536=Y:=zb a;simp only[e,f,g,cond_true];rfl
def Pv:jK z5 n=(xI n z5).flatten:=by rw[I3]
def M3{h:H}{d:List (List E)}{t:zA}{g:Bool}(p:ae h k (K d.flatten s g))(o:∀c∈d,I c=5)(f:i<I d):
 zG Z h 31 (D t) (zM (O ⟨k,i*5,U⟩))=O (h.p k (K (d.set i (tc t)).flatten s g)):=by
 have hlen:∀d:List (List E),(∀c∈d,I c=5)->I d.flatten=I d*5:=by
  intro d;induction d with
  |nil=>intro _;rfl
  |cons c d l=>intro h;simp at h⊢;rw[h.1];have:=l h.2;simp at this;omega
 have m:∀(d:List (List E))(i:Nat),(∀c∈d,I c=5)->i<I d->d.flatten.take (i*5)++(tc t++d.flatten.drop (i*5+5))=(d.set i (tc t)).flatten:=by
  intro d;induction d with
  |nil=>intro i _ f;simp at f
  |cons c d l=>
   intro i h f;simp at h;cases i with
   |zero=>
    have j:I c=5:=h.1;simp[j]
   |succ i=>
    have j:I c=5:=h.1;have:=l i (λc j=>h.2 c j) (by simpa using f);simp only[List.set_cons_succ,uC,List.take_append,List.drop_append,j];rw[yI (by omega),yN (by omega),show(i+1)*5-5=i*5 by omega,show(i+1)*5+5-5=i*5+5 by omega,<-this];simp
 have a:=dY (T:=Z) (v:=D t) (n:=5) (off:=i*5) oa (by rw[dP];rfl) (by rw[dP];exact EE t) p (by rw[hlen d o];omega);rw[a,dP,m d i o f]
def jB:yG:=z f141 [Y,Y,Y,Y,G,Y,G]
def iT:yG:=ak [Y,Y,G,G] jB
def YL:f141.body=O (zS (z f141 pF0) (zS (z f141 pF1) (zS (z f141 pF2) (zS (z f141 pF3) (zS (zS (z f141 [Y,Y,Y,Y,G,G]) (z f141 [Y,Y,Y,Y,G,Y])) (z f141 pT5)))))):=rfl
def ZE:z f141 [Y,Y,Y,Y,G,Y]=.cond (.tmp 25) jB we:=rfl
def X8:jB=zS (ak [G] jB) (zS (ak [Y,G] jB) (zv 0 (yb iT))):=rfl
def Ay:Array Oper:=bq (ak [Y,Y,G,G,Y] iT)
def X9:iT=zS (ak [G] iT) (zS (ak [Y,G] iT) (zS (zv 1 (zS (ak [Y,Y,G,G,G] iT) (yM 10 Ay Y))) (ak [Y,Y,Y] iT))):=rfl
def Ar:Tr Nat:=bj Ay.toList 0 .Nl
def aay:(aN (aE Ar 12) 11&&aN (aE Ar 13) 11&&aN (aE Ar 13) 1&&aN (aE Ar 13) 3&&aN (aE Ar 13) 4&&aN (aE Ar 13) 7)=Y:=by kernel_rfl
abbrev gw(n:Nat)(ts:List zA):List (List E):=ts.map tc++xI (n-I ts) z5
def M4{ts:List zA}(h:I ts<=n):I (gw n ts)=n:=by simp;omega
def ML(n:Nat)(ts:List zA):∀c∈gw n ts,I c=5:=by
 intro c a;rcases List.mem_append.1 a with h|h
 .obtain⟨t,_,rfl⟩:=xp.1 h;rfl
 .rw[List.eq_of_mem_replicate h];rfl
def M5{ts:List zA}(t:zA)(h:I ts<n):(gw n ts).set (I ts) (tc t)=gw n (ts++[t]):=by
 unfold gw;obtain⟨k,b⟩:∃k,n-I ts=k+1:=⟨n-I ts-1,by omega⟩;have a:n-I (ts++[t])=k:=by simp;omega
 rw[b,a,xj,tA _ _ (by simp)];simp
structure AQ(vf:E)(t u:zA)(d:Int)(ts:List zA)(k:Nat)(tm:Tr E)(h:H):Prop where
 base:h.b=0
 next:5<=h.n
 g0:h.g 0=O (K [vf] 216 G)
 g1:h.g 1=O (K (ah (D t)) 31 G)
 g2:h.g 2=O (K z5 31 G)
 g3:h.g 3=O (K [J u.w,J u.Q,zN u.F,aO u.H,zL (O ⟨4,0,U⟩) (I t.M) (I t.M)] 31 G)
 g4:h.g 4=O (K (gw (I t.M) ts).flatten 31 G)
 le:I ts<=I t.M
 t2:tm.g 2=O (J d)
 t3:tm.g 3=O (zM (O ⟨0,0,U⟩))
 t4:tm.g 4=O (zM (O ⟨1,0,U⟩))
 t6:tm.g 6=O (zM (O ⟨2,0,U⟩))
 t7:tm.g 7=O (zM (O ⟨3,0,U⟩))
 t32:tm.g 32=O (al t.M)
 t33:tm.g 33=O (J (I t.M:Nat))
 t34:tm.g 34=O (J k)
def EX(e:Int)(c:List zO)(s:S):Prop:=s.df=[]/\s.ab=U/\c=[⟨cL e,G,G⟩]
def Lh(v:E):zE Z 216 [v] 0=O (aAg [v]):=by rw[fV (show Am.zK Z 216=O Y by kernel_rfl) (show Am.zI Z 216=O 1 by kernel_rfl)];rfl
section
variable{ev:zC->ag}{vf:E}{t u:zA}{d:Int}{ts:List zA}{tm:Tr E}{h:H}
def amG(R:AQ vf t u d ts (I ts) tm h)(w:I ts<I t.M)(hB:n+1=h.n)(S:5<=n)(p:ae h n (ad (ah (D t.M[I ts])) 31))(F:aa tm 9 (J (I ts:Nat)))(v:aa tm 10 (pB n))
 {r:Except Int zA}(g:∀m,ev (aj 167 [J t.w,J (I ts:Nat)] m)=.r (J (eN t.w (I ts:Nat))) m U)(a:∀m,ev (aj 141 [aAg [vf],D t.M[I ts],J (aL (d+eN t.w (I ts:Nat)))] m)=(dg r).bi m):
 ay (λs=>s.df=[]/\s.ab=U/\∃f,r=.ok f/\AQ vf t u d (ts++[f]) (I ts) s.tm s.h) ca ap (λc s=>∃e,r=yZ e/\EX e c s) (jN Z ev ⟨141,U⟩ Ay Y ⟨tm,[],h,U⟩):=by
 let⟨x,T,g0,g1,g2,g3,g4,y,t2,t3,t4,t6,t7,t32,t33,t34⟩:=R;rw[dJ];have L:=aay;simp only[zX]at L;let⟨⟨⟨⟨⟨A,C⟩,i⟩,j⟩,l⟩,o⟩:=L;have e:bj Ay.toList 0 .Nl=Ar:=rfl;rw[e];generalize Ar=bs at*;have M:0<h.n:=by omega
 have N:1<h.n:=by omega
 have P:3<h.n:=by omega
 have V:4<h.n:=by omega
 have Q:n<h.n:=by omega
 have W:=λ(h:H)=>Ha (h:=h) (b:=4) (m:=I t.M) (k:=zx) w;have X:=λ(h0:H)(q:ae h0 4 (ad (gw (I t.M) ts).flatten 31))(f:zA)=>M3 (t:=f) q (ML _ _) (by rw[M4 y];exact w);cases r with
 |ok f=>
  have a:∀m,ev (aj 141 [aAg [vf],D t.M[I ts],J (aL (d+eN t.w (I ts:Nat)))] m)=.r (D f) m U:=a;simp+contextual [Ay,bq,iT,jB,z,ak,sub,f141,t2,t3,t4,t7,F,v,x,g0,g1,g3,g4,p,ob,Lh,M,N,P,V,Q,g,a,W,X,cV,cY,cZ,dc,i,j,l,o]
  have hr:(List.map tc ts).flatten++((xI (I t.M-I ts) z5).set 0 (tc f)).flatten=(gw (I t.M) (ts++[f])).flatten:=by rw[<-M5 f w];simp[gw]
  rw[hr];exact⟨by simp[x],by simpa using T,by simp[g0],by simp[g1],by simp[g2],by simp[g3],by simp,by simp;omega,by simp[t2],by simp[t3],by simp[t4],by simp[t6],by simp[t7],by simp[t32],by simp[t33],by simp[t34]⟩
 |error er=>
  have a:∀m,ev (aj 141 [aAg [vf],D t.M[I ts],J (aL (d+eN t.w (I ts:Nat)))] m)=.p [⟨cL er,G,G⟩] m U:=a;simp+contextual [Ay,bq,iT,jB,z,ak,sub,f141,t2,t3,t4,t7,F,v,x,g0,g1,g3,p,ob,Lh,M,N,P,Q,g,a,ol,rM,A,C];exact⟨rfl,rfl,rfl⟩
end
end Go.Proofs.YtpeialehpoilbaaGreat
namespace Go.Am.Eu
def amH{b:zA->Int->VO}{d:Int}{ts :List zA}{t :zA}{R:Except Int (List zA)}(f:y[I ts]?=O a)
 (h:R=match fH b c (I ts) (y.drop (I ts)) d with|.ok r=>.ok (ts++r)|.error e=>yZ e)(i:dS b a (aL (d+eN c (I ts)))=.ok t):
 R=match fH b c (I (ts++[t])) (y.drop (I (ts++[t]))) d with|.ok r=>.ok (ts++[t]++r)|.error e=>yZ e:=by
 let⟨g,f⟩:=yf.1 f;rw[yK g,CC,f,i]at h;rw[h];simp only[yD,wJ];cases fH b c (I ts+1) (y.drop (I ts+1)) d with
 |ok r=>simp
 |error e=>rfl
def amI{g:zA->Int->VO}{d:Int}{ts :List zA}{R:Except Int (List zA)}(b:y[I ts]?=O a)
 (h:R=match fH g c (I ts) (y.drop (I ts)) d with|.ok r=>.ok (ts++r)|.error e=>yZ e)(i:dS g a (aL (d+eN c (I ts)))=yZ e):R=yZ e:=by
 let⟨f,b⟩:=yf.1 b;rw[yK f,CC,b,i]at h;exact h
end Go.Am.Eu
namespace Go.Proofs.YtpeialehpoilbaaGreat
section
variable{ev:zC->ag}{vf:E}{t u:zA}{d:Int}{ts:List zA}{tm:Tr E}{h:H}
def aj9(o:AQ vf t u d ts (I ts) tm h)(y:I ts<I t.M)(W:I ts+1<=ao)
 {r:Except Int zA}(p:∀m,ev (aj 167 [J t.w,J (I ts:Nat)] m)=.r (J (eN t.w (I ts:Nat))) m U)(v:∀m,ev (aj 141 [aAg [vf],D t.M[I ts],J (aL (d+eN t.w (I ts:Nat)))] m)=(dg r).bi m):
 ay (λs=>s.df=[]/\s.ab=U/\∃g,r=.ok g/\AQ vf t u d (ts++[g]) (I (ts++[g])) s.tm s.h) (λ_=>False) (λ_ _=>False) (λc s=>∃e,r=yZ e/\EX e c s) (aw Z ev ⟨141,U⟩ iT ⟨tm,[],h,U⟩):=by
 have V:=dA W;simp at V;obtain⟨x,A,B,C,F,H,L,i,M,N,P,Q,R,b,f,a⟩:=o;rw[X9];refine iw (N':=λs=>s=⟨tm.s 35 (zP Y),[],h,U⟩) ?_ λs S=>?_
 .simp[iT,jB,z,ak,sub,f141,f,a,y]
 rw[S];refine iw (N':=λs=>s=⟨tm.s 35 (zP Y),[],h,U⟩) ?_ λs S=>?_
 .simp[iT,jB,z,ak,sub,f141,an]
 rw[S];refine iw (N':=λs=>s.df=[]/\s.ab=U/\∃g,r=.ok g/\AQ vf t u d (ts++[g]) (I ts) s.tm s.h) ?_ λs⟨j,k,g,T,o⟩=>?_
 .rw[hU];refine mM (iw (N':=λs=>s.df=[]/\s.ab=U/\AQ vf t u d ts (I ts) s.tm s.h/\s.h.n=h.n+1/\s.h.g h.n=O (K (ah (D t.M[I ts])) 31 G)/\s.tm.g 9=O (J (I ts:Nat))/\s.tm.g 10=O (zM (O ⟨h.n,0,U⟩))) ?_ λs⟨j,k,o,T,X,q5,q6⟩=>?_)
  .have n0:¬0=h.n:=by omega
   have n1:¬1=h.n:=by omega
   have n2:¬2=h.n:=by omega
   have n3:¬3=h.n:=by omega
   have n4:¬4=h.n:=by omega
   simp[iT,jB,z,ak,sub,f141,b,a,y,x];exact⟨by simp[x],by simp;omega,by simp[n0,B],by simp[n1,C],by simp[n2,F],by simp[n3,H],by simp only[jd,kP,n4,if_false];exact L,i,by simp[M],by simp[N],by simp[P],by simp[Q],by simp[R],by simp[b],by simp[f],by simp[a]⟩
  .rw[eg];obtain⟨w,l,h1,n⟩:=s;have j:l=[]:=j;have k:n=U:=k;subst j;subst k;exact(amG o y T.symm A X q5 q6 p v).Mo (λ_ q=>q) (λ_ q=>q.elim) (λ_ _ q=>q.elim) (λ_ _ q=>q)
 .obtain⟨w,l,h1,n⟩:=s;have j:l=[]:=j;have k:n=U:=k;subst j;subst k;obtain⟨x,A,B,C,F,H,L,i,M,N,P,Q,R,b,f,a⟩:=o;have a:w.g 34=O (J (I ts:Nat)):=a;simp[iT,jB,z,ak,sub,f141,a,V];exact⟨g,T,⟨x,A,B,C,F,H,L,i,by simp[M],by simp[N],by simp[P],by simp[Q],by simp[R],by simp[b],by simp[f],by simp⟩⟩
def amJ(b:AQ vf t u d ts (I ts) tm h)(f:I t.M<=I ts):
 ay ca ca (λj s=>j=0/\s.df=[]/\s.ab=U/\AQ vf t u d ts (I ts) s.tm s.h) ap (aF Z ev 141 iT tm h):=by
 let⟨c,e,g0,g1,g2,g3,g4,hle,t2,t3,t4,t6,t7,t32,t33,t34⟩:=b;have a:¬I ts<I t.M:=by omega
 simp[iT,jB,z,f141,t33,t34,a,an];exact⟨c,e,g0,g1,g2,g3,g4,hle,by simp[t2],by simp[t3],by simp[t4],by simp[t6],by simp[t7],by simp[t32],by simp[t33],by simp[t34]⟩
end
abbrev bK(g:zZ)(cap:List E):E:=zU (za g) ⟨[]⟩ ⟨cap⟩
structure KQ(g:zZ)(cap:List E)(pre:zA->Prop)(vo:zA->Int->VO):Prop where
 pure:bX cap
 n1:g≠141
 n2:g≠167
 fn:kg Z prog g (λx:zA×Int=>pre x.1) (λx=>[D x.1,J x.2]++cap) (λx=>(vo x.1 x.2).mo)
abbrev iK(g:zZ)(a:List E)(x:zA×Int):List E:=[aAg [bK g a],D x.1,J x.2]
def Li:zE Z 214 l n=l[n]?:=dK (show Am.zK Z 214=O G by kernel_rfl) l n
@[simp] theorem aFe{h:H}:aX Z h 216 0 (O (zM (O ⟨n,k,U⟩)))=.v (zM (O ⟨n,k+0,U⟩)) h:=by kernel_rfl
@[simp] theorem aHi{h:H}:aX Z h 31 4 (O (zM (O ⟨n,k,U⟩)))=.v (zM (O ⟨n,k+4,U⟩)) h:=by kernel_rfl
def adP:Am.zI Z 29=O 1:=by kernel_rfl
def JW{h:H}{c d f i:E}{g:Bool}(j:ae h k (K [N,c,d,f,i] s g))(a:Option Addr)(n m:Nat):
 zG Z h 29 (zL a n m) (zM (O ⟨k,4,U⟩))=O (h.p k (K [N,c,d,f,zL a n m] s g)):=by
 rw[dY (v:=zL a n m) (n:=1) (off:=4) adP rfl rfl j (by show 5<=5;omega)];rfl
def amK{h:H}{ts:List zA}(c:n=I ts)(b:h.g 4=O (K (gw n ts).flatten 31 G)):DV h.g (zL (O ⟨4,0,U⟩) n n) (al ts):=by
 subst c;have e:gw (I ts) ts=ts.map tc:=by simp[gw]
 rw[e]at b
 exact .of (R4 (cs:=ts.map tc) b (by simp) rfl (zR _) λi x t a d=>by rw[vu,d]at a;simp at a;subst a;exact .data _ t)
structure Bu0(vf:E)(t:zA)(d:Int)(tm:Tr E)(h:H):Prop where
 base:h.b=0
 next:h.n=3
 g0:h.g 0=O (K [vf] 216 G)
 g1:h.g 1=O (K (ah (D t)) 31 G)
 g2:h.g 2=O (K z5 31 G)
 t2:tm.g 2=O (J d)
 t3:tm.g 3=O (zM (O ⟨0,0,U⟩))
 t4:tm.g 4=O (zM (O ⟨1,0,U⟩))
 t6:tm.g 6=O (zM (O ⟨2,0,U⟩))
structure Qd(vf:E)(t u:zA)(d:Int)(b:Bool)(kv:E)(tm:Tr E)(h:H):Prop where
 base:h.b=0
 next:h.n=4
 g0:h.g 0=O (K [vf] 216 G)
 g1:h.g 1=O (K (ah (D t)) 31 G)
 g2:h.g 2=O (K z5 31 G)
 g3:h.g 3=O (K [J u.w,J u.Q,zN u.F,aO u.H,kv] 31 G)
 t2:tm.g 2=O (J d)
 t3:tm.g 3=O (zM (O ⟨0,0,U⟩))
 t4:tm.g 4=O (zM (O ⟨1,0,U⟩))
 t6:tm.g 6=O (zM (O ⟨2,0,U⟩))
 t7:tm.g 7=O (zM (O ⟨3,0,U⟩))
 t8:tm.g 8=O (zP b)
section
variable{ev:zC->ag}{vf:E}{t u:zA}{d:Int}{ts:List zA}{tm:Tr E}{h:H}
structure Wa(u:zA)(kv:E)(tm:Tr E)(h:H):Prop where
 base:h.b=0
 g2:h.g 2=O (K z5 31 G)
 g3:h.g 3=O (K [J u.w,J u.Q,zN u.F,aO u.H,kv] 31 G)
 t6:tm.g 6=O (zM (O ⟨2,0,U⟩))
 t7:tm.g 7=O (zM (O ⟨3,0,U⟩))
def atT(u:zA)(a:E)(P:H->Prop)(s:S):Prop:=s.df=[]/\s.ab=U/\s.h.b=0/\s.tm.g 6=O (pB 2)/\s.h.g 2=O (ad [J u.w,J u.Q,zN u.F,aO u.H,a] 31)/\P s.h
def aka{a:Option Addr}(d:Wa u (zL a n m) tm h)(P:H->Prop)(e:P (h.p 2 (K [J u.w,J u.Q,zN u.F,aO u.H,zL a n m] 31 G))):
 ay (λ_=>False) (atT u (zL a n m) P) (λ_ _=>False) (λ_ _=>False) (aw Z ev ⟨141,U⟩ (z f141 pT5) ⟨tm,[],h,U⟩):=by
 let⟨b,g2,g3,t6,t7⟩:=d;have p:=fh (c:=[J u.w,J u.Q,zN u.F,aO u.H,zL a n m]) rfl;have s:=λ(f:H)(q:f.g 2=O (K z5 31 G))=>fp (c:=[J u.w,J u.Q,zN u.F,aO u.H,zL a n m]) rfl rfl q rfl;simp[z,f141,t6,t7,b,g2,g3,p,s];exact⟨rfl,rfl,by simp[b],by simp[t6],by simp,e⟩
end
def SE{g:zZ}{cap:List E}{pre:zA->Prop}{vo:zA->Int->VO}(hv:KQ g cap pre vo)(hk:∀t,pre t->I t.M<=3/\∀x∈t.M,pre x):
 kg Z prog 141 (λx:zA×Int=>pre x.1) (iK g cap) (λx=>dg (dS vo x.1 x.2)):=by
 refine aoU (λx=>zD x.1) λ⟨t,d⟩ hp avV h0=>?_;have hp:pre t:=hp
 obtain⟨C,hC,h41,h67,hg⟩:∃C,aR Z prog C/\bS C 141 (λy:zA×Int=>zD y.1<zD t/\pre y.1) (iK g cap) (λx=>dg (dS vo x.1 x.2))/\
  Has C 167 (λ_:Int×Int=>True) (λx=>[J x.1,J x.2]) (λx=>J (eN x.1 x.2))/\bS C g (λx:zA×Int=>pre x.1) (λx=>[D x.1,J x.2]++cap) (λx=>(vo x.1 x.2).mo):=by
  refine⟨_,jL (aZ (jL aW hv.fn) aau) avV,bS.add λx y _ _ e=>?_,Has.Sk (by decide) (Has.Ad λx y e=>?_),bS.skip hv.n1 (bS.skip hv.n2 (bS.add λx y _ _ e=>?_))⟩
  .obtain⟨x1,x2⟩:=x;obtain⟨y1,y2⟩:=y;simp at e;rw[cf e.1,e.2]
  .obtain⟨x1,x2⟩:=x;obtain⟨y1,y2⟩:=y;simp at e;rw[e.1,e.2]
  .obtain⟨x1,x2⟩:=x;obtain⟨y1,y2⟩:=y;simp at e;rw[cf e.1,e.2]
 have f:∀n m,af Z C n (.call (bK g cap) [D t,J d] m U)=(vo t d).mo.bi m:=λn m=>hg.FY (T:=Z) n (x:=(t,d)) hp rfl m;refine mi tok C hC (.Cs (.agg (.Cs (.func g .Nl hv.pure) .Nl)) (.Cs (bg t) (.Cs (.Gd rfl) .Nl))) 8 F141 YL rfl ?_ h0;have hlen:=(hk t hp).1;show ay (bG Z _ _ (dg (dS vo t d))) (bG Z _ _ (dg (dS vo t d))) (λ_ _=>False) (iX _ (dg (dS vo t d))) _;refine ax (Q0:=Bu0 (bK g cap) t d) ?_ λtm h F=>?_
 .simp[z,ak,sub,f141];exact .mk ⟨by simp,by simp,by simp,by simp,by simp,by simp,by simp,by simp,by simp⟩
 obtain⟨v,k,P,A,R,L,M,B,N⟩:=F;have w:=Hx vo t d;cases S:vo t d with
 |stop er=>
  rw[S]at w;rw[w];have f:∀n m,af Z C n (.call (bK g cap) [D t,J d] m U)=.p [⟨cL er,G,G⟩] m U:=λn m=>by rw[f,S];rfl
  rw[run_seq];simp[z,ak,sub,f141,L,M,B,v,P,A,Li,f];exact⟨rfl,rfl,cL er,cL er,rfl,rfl,.Pu (mO er)⟩
 |done u=>
  rw[S]at w;rw[w];have f:∀n m,af Z C n (.call (bK g cap) [D t,J d] m U)=.r (aTu [D u,zP Y]) m U:=λn m=>by rw[f,S];rfl
  refine ax (Q0:=Qd (bK g cap) t u d Y (al u.M)) ?_ λtm h F=>?_
  .simp[z,ak,sub,f141,L,M,B,v,P,A,Li,f,k];exact .mk ⟨by simp[v],by simp[k],by simp[k,P],by simp[k,A],by simp[k,R],by simp[dP],by simp[L],by simp[M],by simp[B],by simp[N],by simp,by simp⟩
  obtain⟨v,k,P,A,R,g3,L,M,B,N,V,t8⟩:=F;have Wb:h.g 3=O (K (ah (D u)) 31 G):=by rw[dP];exact g3
  rw[run_seq];simp[z,ak,sub,f141,L,M,B,N,V,t8,v,P,A,R,Wb,an];refine⟨rfl,rfl,D u,D u,h.p 2 (K (ah (D u)) 31 G),rfl,?_,.Pu (bg u)⟩;simp[N,v]
 |go u=>
  rw[S]at w;have f:∀n m,af Z C n (.call (bK g cap) [D t,J d] m U)=.r (aTu [D u,zP G]) m U:=λn m=>by rw[f,S];rfl
  refine ax (Q0:=Qd (bK g cap) t u d G (al u.M)) ?_ λtm h F=>?_
  .simp[z,ak,sub,f141,L,M,B,v,P,A,Li,f,k];exact .mk ⟨by simp[v],by simp[k],by simp[k,P],by simp[k,A],by simp[k,R],by simp[dP],by simp[L],by simp[M],by simp[B],by simp[N],by simp,by simp⟩
  refine ax (Q0:=Qd (bK g cap) t u d G (al u.M)) ?_ λtm h F=>?_
  .obtain⟨v,k,P,A,R,g3,L,M,B,N,V,t8⟩:=F;simp[z,ak,sub,f141,t8,an];exact .mk ⟨v,k,P,A,R,g3,by simp[L],by simp[M],by simp[B],by simp[N],by simp[V],by simp[t8]⟩
  refine ax (Q0:=Qd (bK g cap) t u d G (zL U 0 0)) ?_ λtm h F=>?_
  .obtain⟨v,k,P,A,R,g3,L,M,B,N,V,t8⟩:=F;have s:=JW g3 U 0 0;simp[z,ak,sub,f141,V,s];exact .mk ⟨by simp[v],by simp[k],by simp[P],by simp[A],by simp[R],by simp,by simp[L],by simp[M],by simp[B],by simp[N],by simp[V],by simp[t8]⟩
  have Dx:dS vo t d=match fH vo t.w 0 t.M d with|.ok l=>.ok (u.rN l)|.error e=>yZ e:=w
  have tail:∀tm h,(∃a n m l,fH vo t.w 0 t.M d=.ok l/\Wa u (zL a n m) tm h/\∀o,DV (h.p 2 o).g (zL a n m) (al l))->
   ay (bG Z [yB 6 31] (λh=>h.g) (dg (dS vo t d))) (bG Z [yB 6 31] (λh=>h.g) (dg (dS vo t d))) (λ_ _=>False) (iX (λh=>h.g) (dg (dS vo t d))) (aw Z (af Z C (8+1)) ⟨141,U⟩ (z f141 pT5) ⟨tm,[],h,U⟩):=by
   rintro tm h ⟨a,n,m,l,e,F,hd⟩;refine(aka F (λW=>DV W.g (zL a n m) (al l)) (hd _)).Mo (λ_ q=>q.elim) (λs q=>?_) (λ_ _ q=>q.elim) (λ_ _ q=>q.elim);obtain⟨q1,q2,q3,q4,q5,q6⟩:=q;rw[Dx,e];have p:=fh (c:=[J u.w,J u.Q,zN u.F,aO u.H,zL a n m]) rfl;refine⟨q1,q2,aAg [J u.w,J u.Q,zN u.F,aO u.H,zL a n m],D (u.rN l),s.h,rfl,?_,?_⟩
   .simp[q3,q4,q5,p]
   .rw[GG,By];exact .agg (.Cs (.Pu (.Gd rfl)) (.Cs (.Pu (.Gd rfl)) (.Cs (.Pu (.Gd rfl)) (.Cs (.Pu (jM _)) (.Cs q6 .Nl)))))
  obtain⟨v,k,P,A,R,g3,L,M,B,N,V,t8⟩:=F;refine ax (Q0:=λtm h=>∃a n m l,fH vo t.w 0 t.M d=.ok l/\Wa u (zL a n m) tm h/\∀o,DV (h.p 2 o).g (zL a n m) (al l)) ?_ tail;by_cases hz:t.M=[]
  .have AN:fH vo t.w 0 t.M d=.ok []:=by rw[hz,Bh]
   simp[z,ak,sub,f141,B,v,A,hz,an];exact .mk ⟨U,0,0,[],by rw[Bh],⟨v,R,g3,by simp[N],by simp[V]⟩,λo=>.cP⟩
  .have BH:0<I t.M:=tU.2 hz;refine ax (Q0:=λi W=>W=h/\i.g 25=O (zP Y)/\i.g 2=tm.g 2/\i.g 3=tm.g 3/\i.g 4=tm.g 4/\i.g 6=tm.g 6/\i.g 7=tm.g 7) ?_ λX h1⟨e1,Wc,k2,k3,k4,k6,k7⟩=>?_
   .simp[z,ak,sub,f141,B,v,A];exact .mk ⟨rfl,by simp[BH],by simp[L],by simp[M],by simp[B],by simp[N],by simp[V]⟩
   subst e1;rw[L]at k2;rw[M]at k3;rw[B]at k4;rw[N]at k6;rw[V]at k7;rw[ZE,oR];simp only[qI,Wc,rG];rw[X8];have n4:¬4=3:=by omega
   refine ax (Q0:=λi W=>W.b=0/\W.n=5/\W.g 0=O (K [bK g cap] 216 G)/\W.g 1=O (K (ah (D t)) 31 G)/\W.g 2=O (K z5 31 G)/\
    W.g 3=O (K [J u.w,J u.Q,zN u.F,aO u.H,zL (O ⟨4,0,U⟩) (I t.M) (I t.M)] 31 G)/\W.g 4=O (K (gw (I t.M) []).flatten 31 G)/\
    i.g 2=X.g 2/\i.g 3=X.g 3/\i.g 4=X.g 4/\i.g 6=X.g 6/\i.g 7=X.g 7) ?_ λjH h2⟨b0,b1,b2,b3,b4,b5,b6,j2,j3,j4,j6,j7⟩=>?_
   .have mk:=λh=>Pt h (n:=I t.M) (by omega);have s:=λ(h0:H)(q:h0.g 3=O (K [J u.w,J u.Q,zN u.F,aO u.H,zL U 0 0] 31 G))(b:Nat)=>JW q (O ⟨b,0,U⟩) (I t.M) (I t.M);simp[jB,z,ak,sub,f141,k4,k7,v,A,mk,s,k,g3];refine .mk ⟨by simp[v],by simp[k],by simp[k,P],by simp[k,A],by simp[k,R],by simp,?_,by simp[k2],by simp[k3],by simp[k4],by simp[k6],by simp[k7]⟩;simp[k,Pv,gw]
   rw[k2]at j2;rw[k3]at j3;rw[k4]at j4;rw[k6]at j6;rw[k7]at j7;refine ax (Q0:=AQ (bK g cap) t u d [] 0) ?_ λru h3 F=>?_
   .simp[jB,z,ak,sub,f141,j4,b0,b3];exact .mk ⟨b0,by omega,b2,b3,b4,b5,b6,by simp,by simp[j2],by simp[j3],by simp[j4],by simp[j6],by simp[j7],by simp,by simp,by simp⟩
   refine pE 4 (λj s=>∃ts,j=I t.M-I ts/\bB (AQ (bK g cap) t u d ts (I ts)) s/\fH vo t.w 0 t.M d=match fH vo t.w (I ts) (t.M.drop (I ts)) d with|.ok r=>.ok (ts++r)|.error e=>yZ e)
    (I t.M) ⟨[],by simp,.mk F,by simp;cases fH vo t.w 0 t.M d<;>rfl⟩ (by omega) ?_
   rintro j s m ⟨ts,rfl,hs,Q⟩ hm;obtain⟨Cb,h4,rfl,F⟩:=hs.elim;by_cases cA:I ts<I t.M
   .have hx:t.M[I ts]?=O t.M[I ts]:=zm cA;have Lj:t.M[I ts]∈t.M:=zW cA;have U3:∀m',af Z C m (aj 167 [J t.w,J (I ts:Nat)] m')=.r (J (eN t.w (I ts:Nat))) m' U:=λm'=>h67.ev (T:=Z) m (x:=(t.w,(I ts:Int))) trivial m'
    have Lk:∀m',af Z C m (aj 141 [aAg [bK g cap],D t.M[I ts],J (aL (d+eN t.w (I ts:Nat)))] m')=(dg (dS vo t.M[I ts] (aL (d+eN t.w (I ts:Nat))))).bi m':=
     λm'=>h41.ev (T:=Z) m (x:=(t.M[I ts],aL (d+eN t.w (I ts:Nat)))) ⟨mg Lj,(hk t hp).2 _ Lj⟩ m'
    refine(aj9 F cA (by unfold ao;omega) U3 Lk).Mo (λs q=>?_) (λ_ q=>q.elim) (λ_ _ q=>q.elim) (λc s q=>?_)
    .obtain⟨q1,q2,t',q3,q4⟩:=q;refine⟨_,?_,ts++[t'],rfl,⟨q1,q2,q4⟩,amH hx Q q3⟩;simp;omega
    .obtain⟨er,q1,q2,q3,q4⟩:=q;have:=amI hx Q q1;rw[Dx,this];exact⟨q2,q3,cL er,cL er,rfl,q4,.Pu (mO er)⟩
   .refine(amJ F (by omega)).Mo (λ_ q=>q.elim) (λ_ q=>q.elim) (λj s q=>⟨q.1,q.2.1,q.2.2.1,?_⟩) (λ_ _ q=>q.elim);obtain⟨v,h5,P,A,R,g3,g4,hle,L,M,B,N,V,t32,t33,t34⟩:=q.2.2.2;have hl:I t.M=I ts:=by omega
    rw[yN (by omega),Bh]at Q;refine⟨O ⟨4,0,U⟩,I t.M,I t.M,ts,by simpa using Q,⟨v,R,g3,N,V⟩,λo=>amK hl ?_⟩;rw[jd];simp only[show¬(4=2)by omega,if_false];exact g4
end Go.Proofs.YtpeialehpoilbaaGreat
namespace Go.Am.Eu
inductive aI(p:zA->Prop):zA->Prop
 |mk {t:zA} (h:p t) (hk:∀x∈t.M,aI p x):aI p t
def aI.here{p:zA->Prop}(h:aI p a):p a:=by cases h;assumption
def aI.ld{p:zA->Prop}{x:zA}(h:aI p a)(b:x∈a.M):aI p x:=by cases h with|mk _ c=>exact c x b
def aI.imp{p q:zA->Prop}(a:∀t,p t->q t):∀{t:zA},aI p t->aI q t
 |_,.mk h b=>.mk (a _ h) λx c=>(b x c).imp a
def iu(t:zA):Prop:=I t.M<=3/\mD t
def fg(ro:zA->Int->Except Int zA)(t:zA)(d:Int):VO:=
 if t.w=0 then(match ro t d with|.ok u=>.done u|.error e=>.stop e)else .go t.bare
def oX(n:Int):Except Int zA:=if n<=65535 then .ok (Ib n)else yZ 24
def ZF:Hv c=dg (oX c):=by unfold Hv oX;split<;>rfl
def mq(b a:Int)(t:zA)(d:Int):Except Int zA:=
 if aL (t.Q-d)<b then .ok t.bare else if a<0/\aL (t.Q-d)<aL (b-a)then yZ 24 else oX (aL (t.Q+a))
def qN(t:zA)(a b:Int):Except Int zA:=dS (fg (mq b a)) t 0
def iy(depth:Int)(n:Nat)(t:zA)(b:Int):Int:=if 0<=aL (aL (t.Q-b)-depth)/\aL (aL (t.Q-b)-depth)<n then aL (aL (t.Q-b)-depth)else-1
end Go.Am.Eu
namespace Go.Proofs.YtpeialehpoilbaaGreat
def F168:Z.f 168=O f168:=by kernel_rfl
def F169:Z.f 169=O f169:=by kernel_rfl
def F138:Z.f 138=O f138:=by kernel_rfl
def F142:Z.f 142=O f142:=by kernel_rfl
def F144:Z.f 144=O f144:=by kernel_rfl
structure Uw(g:zZ)(cap:List E)(pre:zA->Prop)(ro:zA->Int->Except Int zA):Prop where
 pure:bX cap
 n1:g≠145
 fn:kg Z prog g (λx:zA×Int=>pre x.1) (λx=>[D x.1,J x.2]++cap) (λx=>dg (ro x.1 x.2))
def U4:zE Z 217 l n=l[n]?:=dK (show Am.zK Z 217=O G by kernel_rfl) l n
def je(h:bH v):bH (ar v 0):=.jg _ _ _ _ h
def Ek(h:bX l):bH (bK f l):=.func f .Nl h
@[simp] theorem aHj:zE Z 29 [v] 0=O v:=by rw[ob];rfl
@[simp] theorem aFf:zE Z 217 [v] 0=O v:=by rw[U4];rfl
@[simp] theorem aCx(f:Fn){p q:Array E}:ah (zU f p q)=[zU f p q]:=rfl
@[simp] theorem aBV:ah (al y)=[al y]:=rfl
@[simp] theorem aCy{l:List aB}:ah (aO l)=[aO l]:=rfl
def amL{x y:zA×Int}(e:[D x.1,J x.2]++l=[D y.1,J y.2]++l):x=y:=by let⟨a,b⟩:=x;let⟨c,d⟩:=y;simp at e;rw[cf e.1,e.2]
def acf{b:zA->Prop}{ro:zA->Int->Except Int zA}(k:Uw f l b ro)(q:∀t,b t->mD t):KQ 168 [ar (bK f l) 0] b (fg ro):=by
 refine⟨.Cs (je (Ek k.pure)) .Nl,by decide,by decide,λ⟨t,d⟩ c r=>?_⟩;have c:b t:=c
 obtain⟨C,s,o,v⟩:∃C,aR Z prog C/\bS C 145 mD (λt=>[D t]) (λt=>.ret (D t.bare))/\bS C f (λx:zA×Int=>b x.1) (λx=>[D x.1,J x.2]++l) (λx=>dg (ro x.1 x.2)):=
  ⟨_,jL (jL aW k.fn) NE,bS.add λx y _ _ e=>(by simp at e;rw[cf e]),bS.skip k.n1 (bS.add λx y _ _ e=>by rw[amL e])⟩
 have a:∀n m,af Z C n (.call (bK f l) [D t,J d] m U)=(dg (ro t d)).bi m:=λn m=>v.FY (T:=Z) n (x:=(t,d)) c rfl m;have h:∀n m,af Z C n (aj 145 [D t] m)=.r (D t.bare) m U:=λn m=>o.ev (T:=Z) n (x:=t) (q t c) m;refine mi tok C s (.Cs (bg t) (.Cs bJ (.Cs (je (Ek k.pure)) .Nl))) 3 F168 rfl rfl ?_ r;show ay (bG Z _ _ (fg ro t d).mo) (bG Z _ _ (fg ro t d).mo) ap (iX _ (fg ro t d).mo) _;unfold fg;by_cases i:t.w=0
 .rw[if_pos i];cases j:ro t d with
  |ok u=>
   have a:∀n m,af Z C n (.call (bK f l) [D t,J d] m U)=.r (D u) m U:=λn m=>by rw[a,j];rfl
   simp[f168,i,an,U4,a];exact bG.Pu (.Tt (.Cs (bg u) dF)) (by simp)
  |error p=>
   have a:∀n m,af Z C n (.call (bK f l) [D t,J d] m U)=.p [⟨cL p,G,G⟩] m U:=λn m=>by rw[a,j];rfl
   simp[f168,i,an,U4,a];exact iX.pure (mO p)
 .rw[if_neg i];simp[f168,i,an,h];exact bG.Pu (.Tt (.Cs (bg _) dF)) (by simp)
def acg:aJ Z prog 138 (λx:(zA×Int)×(Int×List zA)=>I x.2.2<ao) (λx=>[D x.1.1,J x.1.2]++[ar (J x.2.1) 0,ar (al x.2.2) 0]) (λx=>J (iy x.2.1 (I x.2.2) x.1.1 x.1.2)):=by
 rintro⟨⟨t,b⟩,⟨a,c⟩⟩ _;refine ku (v:=J (iy a (I c) t b)) tok cg aW (.Cs (bg t) (.Cs bJ (.Cs (je bJ) (.Cs (je (fb c)) .Nl)))) bJ 1 F138 rfl rfl ?_;unfold iy;by_cases h1:0<=aL (aL (t.Q-b)-a)
 .by_cases d:aL (aL (t.Q-b)-a)<I c
  .simp[Br,h1,d,an]
  .simp[Br,h1,d,an]
 .simp[Br,h1,an]
def Og(c b:Int):Uw 169 [ar (J c) 0,ar (J b) 0] mD (mq c b):=by
 refine⟨.Cs (je bJ) (.Cs (je bJ) .Nl),by decide,λ⟨t,d⟩ f w=>?_⟩;have f:mD t:=f
 obtain⟨C,A,p,s,v⟩:∃C,aR Z prog C/\bS C 145 mD (λt=>[D t]) (λt=>.ret (D t.bare))/\bS C 146 (λ_:Int=>True) (λn=>[J n]) Hv/\bS C 166 (λ_:Int=>True) (λe=>[J e]) (λe=>.aU (cL e)):=
  ⟨_,jL (jL (jL aW NZ) aav) NE,bS.add λx y _ _ e=>(by simp at e;rw[cf e]),bS.skip (by decide) (bS.add λx y _ _ e=>(by simp at e;rw[e])),bS.skip (by decide) (bS.skip (by decide) (bS.add λx y _ _ e=>(by simp at e;rw[e])))⟩
 have h:∀n m,af Z C n (aj 145 [D t] m)=.r (D t.bare) m U:=λn m=>p.ev (T:=Z) n (x:=t) f m;have a:∀n m k,af Z C n (aj 146 [J k] m)=(dg (oX k)).bi m:=λn m k=>by rw[<-ZF];exact s.ev (T:=Z) n (x:=k) trivial m
 have i:∀n m k,af Z C n (aj 166 [J k] m)=.p [⟨cL k,G,G⟩] m U:=λn m k=>v.ev (T:=Z) n (x:=k) trivial m;refine mi tok C A (.Cs (bg t) (.Cs bJ (.Cs (je bJ) (.Cs (je bJ) .Nl)))) 3 F169 rfl rfl ?_ w;show ay (bG Z _ _ (dg (mq c b t d))) (bG Z _ _ (dg (mq c b t d))) ap (iX _ (dg (mq c b t d))) _;unfold mq;by_cases h1:aL (t.Q-d)<c
 .rw[if_pos h1];simp[f169,Br,h1,an,h];exact bG.Pu (bg _) (by simp)
 .rw[if_neg h1];have B:∀r,oX (aL (t.Q+b))=r->True:=λ_ _=>trivial;by_cases g:b<0
  .by_cases j:aL (t.Q-d)<aL (c-b)
   .rw[if_pos ⟨g,j⟩];simp[f169,Br,h1,g,j,an,i];exact iX.pure (mO 24)
   .rw[if_neg (λq=>j q.2)];cases l:oX (aL (t.Q+b))with
    |ok u=>
     have a:∀n m,af Z C n (aj 146 [J (aL (t.Q+b))] m)=.r (D u) m U:=λn m=>by rw[a,l];rfl
     simp[f169,Br,h1,g,j,an,a];exact bG.Pu (bg _) (by simp)
    |error o=>
     have a:∀n m,af Z C n (aj 146 [J (aL (t.Q+b))] m)=.p [⟨cL o,G,G⟩] m U:=λn m=>by rw[a,l];rfl
     simp[f169,Br,h1,g,j,an,a];exact iX.pure (mO o)
  .rw[if_neg (λq=>g q.1)];cases l:oX (aL (t.Q+b))with
   |ok u=>
    have a:∀n m,af Z C n (aj 146 [J (aL (t.Q+b))] m)=.r (D u) m U:=λn m=>by rw[a,l];rfl
    simp[f169,Br,h1,g,an,a];exact bG.Pu (bg _) (by simp)
   |error o=>
    have a:∀n m,af Z C n (aj 146 [J (aL (t.Q+b))] m)=.p [⟨cL o,G,G⟩] m U:=λn m=>by rw[a,l];rfl
    simp[f169,Br,h1,g,an,a];exact iX.pure (mO o)
@[simp] theorem aIW:zero Z 216=O (aAg [zj]):=by kernel_rfl
def Oh(h:H)(f:Fn)(p q:Array E):eK Z h 216 (O (aAg [zj])) (O [(0,zU f p q)])=.v (aAg [zU f p q]) h:=by kernel_rfl
def atU:Am.zI Z 216=O 1:=by kernel_rfl
def atV{f:Fn}{p q:Array E}{g:Bool}(a:ae h k (K [N] t g)):zG Z h 216 (aAg [zU f p q]) (pB k)=O (h.p k (K [zU f p q] t g)):=by rw[dY (v:=aAg [zU f p q]) (n:=1) (off:=0) atU rfl rfl a (by show 1<=1;omega)];rfl
abbrev nU(g:zZ)(a:List E):E:=aAg [bK 168 [ar (bK g a) 0]]
def abr:kg Z prog 142 (λx:zZ×List E=>bX x.2) (λx=>[bK x.1 x.2]) (λx=>.ret (nU x.1 x.2)):=by
 rintro⟨g,a⟩ d b;refine mi tok cg aW (.Cs (Ek d) .Nl) 1 F142 rfl rfl ?_ b;have s:=λ(b:H)(f:Fn)(p q:Array E)(h:ae b 1 (ad [zj] 216))=>atV (f:=f) (p:=p) (q:=q) h;simp[f142,Oh,s];refine⟨rfl,rfl,aAg [bK 168 [pB 0]],_,((H.e.w (ad [bK g a] 217)).w (ad [zj] 216)).p 1 (ad [bK 168 [pB 0]] 216),rfl,?_,?_⟩
 .simp[Lh]
 .exact .agg (.Cs (.func 168 .Nl (.Cs (.box (x:=bK g a) (e:=217) (gr:=G) (c:=[bK g a]) (by simp) rfl (.Pu (Ek d))) .Nl)) .Nl)
def KR:Array Oper:=bq (z f144 pF1)
def Hy:Tr Nat:=bj KR.toList 0 .Nl
def aik:f144.body=O (zS (z f144 pF0) (zS (yM 1 KR Y) .ret)):=rfl
def amM:(aN (aE Hy 3) 1&&aN (aE Hy 4) 3&&aN (aE Hy 4) 1&&aN (aE Hy 4) 2)=Y:=by kernel_rfl
def atW:dV (bitsOf [2,1]) (bit 0)=Y:=by decide
def amN:kg Z prog 144 (λx:zA×Int×Int=>aI iu x.1) (λx=>[D x.1,J x.2.1,J x.2.2]) (λx=>dg (qN x.1 x.2.1 x.2.2)):=by
 rintro⟨t,a,b⟩ f h0;have f:aI iu t:=f
 have hv:KQ 168 [ar (bK 169 [ar (J b) 0,ar (J a) 0]) 0] (aI iu) (fg (mq b a)):=
  acf (ro:=mq b a) ⟨(Og b a).pure,(Og b a).n1,(Og b a).fn.UW λx j=>j.here.2⟩ λt f=>f.here.2
 have o:=SE hv λt f=>⟨f.here.1,λx j=>f.ld j⟩;have r:kg Z prog 142 (λ_:Unit=>True) (λ_=>[bK 169 [ar (J b) 0,ar (J a) 0]]) (λ_=>.ret (nU 169 [ar (J b) 0,ar (J a) 0])):=λ_ _=>abr (169,[ar (J b) 0,ar (J a) 0]) (Og b a).pure
 obtain⟨C,hC,s,v⟩:∃C,aR Z prog C/\oZ C 142 UX (λ_:Unit=>True) (λ_=>[bK 169 [ar (J b) 0,ar (J a) 0]]) (λ_=>.ret (nU 169 [ar (J b) 0,ar (J a) 0]))/\
  bS C 141 (λx:zA×Int=>aI iu x.1) (iK 168 [ar (bK 169 [ar (J b) 0,ar (J a) 0]) 0]) (λx=>dg (dS (fg (mq b a)) x.1 x.2)):=
  ⟨_,QT (jL aW o) r,oZ.add λ_ _ _ _ _ _ _ _=>rfl,bS.skip (by decide) (bS.add λx y _ _ e=>(by let⟨x1,x2⟩:=x;let⟨y1,y2⟩:=y;simp at e;rw[cf e.1,e.2]))⟩
 have g:∀n(m:H),ae m 2 (ad [J b] 3)->ae m 1 (ad [J a] 3)->af Z C n (aj 142 [zU (za 169) ⟨[]⟩ ⟨[pB 2,pB 1]⟩] m)=.r (nU 169 [ar (J b) 0,ar (J a) 0]) (m.bx [2,1]) U:=λn m P Q=>
  s.ev (T:=Z) n (x:=()) trivial (m:=m) ⟨by rw[P];simp,(by decide:¬(2∈[1])),by rw[Q];simp,(by decide:¬(1∈([]:List Nat))),trivial⟩ (.Cs (.func 169 .Nl (.Cs (.box (ny (by decide:2∈[2,1]) P) rfl eI) (.Cs (.box (ny (by decide:1∈[2,1]) Q) rfl eI) .Nl))) .Nl)
 have c:∀n m,af Z C n (aj 141 [nU 169 [ar (J b) 0,ar (J a) 0],D t,J 0] m)=(dg (qN t a b)).bi m:=λn m=>v.ev (T:=Z) n (x:=(t,0)) f m;refine mi tok C hC (.Cs (bg t) pZ) 3 F144 aik rfl ?_ h0;show ay (bG Z _ _ (dg (qN t a b))) (bG Z _ _ (dg (qN t a b))) ap (iX _ (dg (qN t a b))) _
 refine ax (Q0:=λd h=>h.b=0/\h.n=4/\ae h 0 (ad (ah (D t)) 31)/\ae h 1 (ad [J a] 3)/\ae h 2 (ad [J b] 3)/\ae h 3 (ad z5 31)/\
  aa d 3 (pB 0)/\aa d 4 (pB 1)/\aa d 5 (pB 2)/\aa d 6 (pB 3)) ?_ λd h⟨o,hn,R,V,W,g3,X,t4,t5,t6⟩=>?_
 .simp[z,f144];exact .mk ⟨by simp,by simp,by simp,by simp,by simp,by simp,by simp,by simp,by simp,by simp⟩
 rw[run_seq,eg,dJ];have bo:=amM;simp only[zX]at bo;let⟨⟨⟨w,A⟩,B⟩,F⟩:=bo;have e:bj KR.toList 0 .Nl=Hy:=rfl;rw[e];generalize Hy=bs at*;have d1:=atW;have l0:0<h.n:=by omega
 have l1:1<h.n:=by omega
 have l2:2<h.n:=by omega
 have l3:3<h.n:=by omega
 let⟨k1,L,_,_⟩:=rI o [2,1];have k3:(h.bx [2,1]).g 0=h.g 0:=kQ (by decide);have k4:(h.bx [2,1]).g 3=h.g 3:=kQ (by decide)
 have dd:∀(i:Nat)(k:List aG->S->ag)(d:Tr E)(M:List zc)(N:Option (List zO)),gG k bs [] i d M h N (h.f.bx [2,1])=k [⟨i,bitsOf [2,1],bitsOf [2,1]⟩] ⟨d,M,h.bx [2,1],N⟩:=
  λi k d M N=>YB o (λx j=>by simp at j;omega) rfl
 cases hr:qN t a b with
 |ok u=>
  rw[hr]at c;have c:∀n m,af Z C n (aj 141 [nU 169 [ar (J b) 0,ar (J a) 0],D t,J 0] m)=.r (D u) m U:=c;simp[KR,bq,z,f144,X,t4,t5,t6,R,V,W,g3,k1,L,k3,k4,l0,l3,g,c,dd,A9,cV,cY,cZ,dc,d1,cO,cR,B,F];exact bG.Pu (bg u) (by simp[t6,L])
 |error er=>
  rw[hr]at c;have c:∀n m,af Z C n (aj 141 [nU 169 [ar (J b) 0,ar (J a) 0],D t,J 0] m)=.p [⟨cL er,G,G⟩] m U:=c;have am:=λ(x:aG)(l:List aG)(q:aN (aE bs 3) x.i=Y)=>qo (p:=3) x l (.inr q);simp[KR,bq,z,f144,X,t4,t5,R,V,W,k1,L,k3,l0,g,c,dd,A9,cY,cZ,dc,d1,cO,w,A,ol,rM,am];exact iX.pure (mO er)
end Go.Proofs.YtpeialehpoilbaaGreat
namespace Go.Am.Eu
def pb(n k:Int):MO:=if 4096<aL (n+k)then .aU (cL 5)else .ret (aTu [])
abbrev zT:zA:=.mk 0 0 ⟨#[]⟩ [] []
def CW(l:List Int):E:=eb J l
def ail(l:List Int):bH (CW l):=.data _ _ _ _ (map_pure (λ_=>.Gd rfl) l)
def fk(bU:Int)(n:Nat)(cT:List Int)(t:zA)(d:Int):Int:=if t.w=0/\0<=iy bU n t d then cT.getD (iy bU n t d).toNat 1 else 1
def JM{bU:Int}{n:Nat}{t:zA}{d:Int}(h:0<=iy bU n t d):iy bU n t d<n:=by
 unfold iy at h⊢;split at h
 .rename_i q;rw[if_pos q];exact q.2
 .omega
end Go.Am.Eu
namespace Go.Proofs.YtpeialehpoilbaaGreat
def F139:Z.f 139=O f139:=by kernel_rfl
def F140:Z.f 140=O f140:=by kernel_rfl
@[simp] theorem TT.u66:Z.u 66=O (zf 3):=by kernel_rfl
@[simp] theorem aFg{h:H}:aX Z h 213 0 (O (zM (O ⟨k,m,U⟩)))=.v (zM (O ⟨k,m+0,U⟩)) h:=by kernel_rfl
def IG:Am.zI Z 3=O 1:=by kernel_rfl
def J6{h:H}{n:Int}{g:Bool}(a:ae h k (K [N] s g)):zG Z h 3 (J n) (pB k)=O (h.p k (K [J n] s g)):=by rw[dY (v:=J n) (n:=1) (off:=0) IG rfl rfl a (by show 1<=1;omega)];rfl
def fT{tm:Tr E}{h:H}{x:Operand}:Am.execOp Z tm s h (.nilCheck x)=.of (Jm h (aA tm x)):=rfl
def fZ{h:H}{a:Addr}:Jm h (O (zM (O a)))=.v (zM (O a)) h:=rfl
abbrev Pw(b:Nat)(x:Int×Int):List E:=[pB b,J x.2]
def arT:AY Z prog 140 213 G (λ_:Int×Int=>True) Pw (λx=>[J x.1]) (λx=>[J (aL (x.1+x.2))]) (λx=>pb x.1 x.2):=by
 rintro⟨n,k⟩ _ h b f;obtain⟨C,g,d⟩:∃C,aR Z prog C/\bS C 166 (λ_:Int=>True) (λe=>[J e]) (λe=>.aU (cL e)):=⟨_,jL aW NZ,bS.add λx y _ _ e=>(by simp at e;rw[e])⟩;have a:∀n m k,af Z C n (aj 166 [J k] m)=.p [⟨cL k,G,G⟩] m U:=λn m k=>d.ev (T:=Z) n (x:=k) trivial m;refine gJ.toM (a0:=Pw 0 (n,k)) (C:=C) (n:=3) tok g (lm F140 rfl rfl ?_) (.Cs (.ptr 0) (.Cs (.pure (.Gd rfl)) .nil)) (λm i q=>abb m i q) (.Cs (.Gd rfl) .Nl) (.Cs (.Gd rfl) .Nl) f;have s:=λ(j:H)(q:j.g 0=O (K [J n] 213 G))=>J6 (n:=aL (n+k)) q;show ay (cn Z _ 213 G (pb n k) [J (aL (n+k))]) (cn Z _ 213 G (pb n k) [J (aL (n+k))]) (λ_ _=>False) (dD 213 G (pb n k) [J (aL (n+k))]) _;unfold pb;by_cases c:4096<aL (n+k)
 .rw[if_pos c];simp[f140,fT,fZ,s,c,an,a];exact dD.pure (mO 5) (by simp)
 .rw[if_neg c];simp[f140,fT,fZ,s,c,an];exact cn.pure (.Tt .Nl) (by simp)
def adQ{v:E}:zE Z 210 [v] 0=O v:=by rw[dK (show Am.zK Z 210=O G by kernel_rfl)];rfl
def Px{v:E}:zE Z 211 [v] 0=O v:=by rw[dK (show Am.zK Z 211=O G by kernel_rfl)];rfl
def Qe{v:E}:zE Z 66 [v] 0=O v:=by rw[dK (show Am.zK Z 66=O G by kernel_rfl)];rfl
@[simp] theorem aDn{a:Option Addr}:ah (zM a)=[zM a]:=rfl
@[simp] theorem aCz{l:List Int}:ah (CW l)=[CW l]:=rfl
def amO{h:H}{l:List Int}{k:IntKind}(a:i<I l):dI Z h (O (zf 3)) (O (CW l)) (O (.int k (i:Int)))=.v (ar (J l[i]) 0) h:=by show M9 h (l.map J) 0 (I l) i (Am.zI Z 3)=_;rw[IG];unfold M9;have b:ze (Nat.succ i) (I l)=Y:=zb a;simp only[b,cond_true];show Je h 1 (l.map J)[0+i]?=_;rw[xF,vu,zm a];rfl
def Ku:Array Oper:=bq (z f139 [Y,G,Y,Y,G])
abbrev pS(bU:Int)(vs:List zA):E:=bK 138 [ar (J bU) 0,ar (al vs) 0]
def Rj(bU:Int)(vs:List zA):bH (pS bU vs):=Ek (.Cs (je bJ) (.Cs (je (fb vs)) .Nl))
abbrev Hz(bU:Int)(vs:List zA)(cT:List Int)(b:Nat):List E:=[ar (pS bU vs) 0,ar (pB b) 0,ar (CW cT) 0]
abbrev Py(bU:Int)(vs:List zA)(cT:List Int)(b:Nat)(x:(zA×Int)×Int):List E:=[D x.1.1,J x.1.2]++Hz bU vs cT b
def oF(t:zA)(c:Int):MO:=if 4096<c then .aU (cL 5)else .ret (aTu [D zT,zP (yF (t.w=0))])
def ach(bU:Int)(vs:List zA)(cT:List Int)(b:Nat):AM b (Hz bU vs cT 0) (Hz bU vs cT b):=
 .Cs (.pure (je (Rj bU vs))) (.Cs (.ar 0 (.ptr 0)) (.Cs (.pure (je (ail cT))) .nil))
def aci{bU:Int}{vs:List zA}{cT:List Int}(h:LR u (Hz bU vs cT k) l):u k≠U:=by
 cases h with
 |Cs _ h=>cases h with
  |Cs h _=>cases h with
   |jg _ h=>cases h with|ptr a=>rw[a];simp
def jn{h:H}:eK Z h 31 (O (aAg [J 0,J 0,zN ⟨#[]⟩,zL U 0 0,zL U 0 0])) (O [])=.v (aAg z5) h:=by kernel_rfl
def rS(g:Nat->Option ai):DV g (aAg z5) (D zT):=by rw[By];exact .agg (.Cs eI (.Cs eI (.Cs eI (.Cs .cP (.Cs .cP .Nl)))))
def Kv:Array Oper:=bq (z f139 pF2)
def aim:f139.body=O (zS (z f139 pF0) (zS (zS (z f139 [Y,G,G]) (zS (z f139 [Y,G,Y,G]) (.cond (.tmp 20) (yM 3 Ku Y) (z f139 [Y,G,Y,Y,Y])))) (zS (yM 5 Kv Y) .ret))):=rfl
structure Cn(t:zA)(d n v:Int)(bU:Int)(vs:List zA)(cT:List Int)(tm:Tr E)(h:H):Prop where
 base:h.b=0
 next:h.n=3
 g0:ae h 0 (ad [J n] 213)
 g1:ae h 1 (ad (ah (D t)) 31)
 g2:ae h 2 (ad z5 31)
 t3:aa tm 3 (ar (pB 0) 0)
 t4:aa tm 4 (ar (CW cT) 0)
 t5:aa tm 5 (pB 1)
 t7:aa tm 7 (pB 2)
 t9:aa tm 9 (J v)
section
variable{ev:zC->ag}{t:zA}{d n v bU:Int}{vs:List zA}{cT:List Int}{tm:Tr E}{h:H}
def apr(w:Cn t d n v bU vs cT tm h)(y:i<I cT)(A:v=i)(a:∀(m:H),ae m 0 (ad [J n] 213)->ev (aj 140 [pB 0,J cT[i]] m)=(pb n cT[i]).bi (m.p 0 (ad [J (aL (n+cT[i]))] 213))):
 ay (bB λe B=>¬4096<aL (n+cT[i])/\Cn t d (aL (n+cT[i])) v bU vs cT e B) ca ap (λc s=>4096<aL (n+cT[i])/\EX 5 c s/\s.h.g 0=O (ad [J (aL (n+cT[i]))] 213)) (jN Z ev ⟨139,U⟩ Ku Y ⟨tm,[],h,U⟩):=by
 let⟨hb,hn,g0,g1,g2,t3,t4,t5,t7,t9⟩:=w;subst A;rw[dJ];generalize bj Ku.toList 0 .Nl=C;have r:=λ(h:H)=>amO (h:=h) (k:=zx) y;have F:=λ(bp:Nat)(x:aG)(l:List aG)(q:x.i=5)=>qo (p:=5) (bp:=bp) x l (.inl q);have L:0<h.n:=by omega
 have u:∀(k:List aG->S->ag)(tm:Tr E)(f:List zc)(g:Option (List zO))(o:ai),gG k C [] 5 tm f h g (h.f.p 0 o)=k [⟨5,bit 0,bit 0⟩] ⟨tm,f,h.p 0 o,g⟩:=λk tm f g o=>cV (hb:=hb) (cA:=L) (ha:=rfl) ..;by_cases b:4096<aL (n+cT[i])
 .have a:∀(m:H),ae m 0 (ad [J n] 213)->ev (aj 140 [pB 0,J cT[i]] m)=.p [⟨cL 5,G,G⟩] (m.p 0 (ad [J (aL (n+cT[i]))] 213)) U:=λm j=>by rw[a m j];unfold pb;rw[if_pos b];rfl
  simp[Ku,bq,z,f139,t3,t4,t9,Px,Qe,r,a,g0,u,rM,F];exact⟨b,rfl,rfl,rfl⟩
 .have a:∀(m:H),ae m 0 (ad [J n] 213)->ev (aj 140 [pB 0,J cT[i]] m)=.r (aTu []) (m.p 0 (ad [J (aL (n+cT[i]))] 213)) U:=λm j=>by rw[a m j];unfold pb;rw[if_neg b];rfl
  simp[Ku,bq,z,f139,t3,t4,t9,Px,Qe,r,a,g0,u];exact .mk ⟨by omega,by simp[hb],by simp[hn],by simp,by simp[g1],by simp[g2],by simp[t3],by simp[t4],by simp[t5],by simp[t7],by simp[t9]⟩
def aps(g:Cn t d n v bU vs cT tm h)(a:∀(m:H),ae m 0 (ad [J n] 213)->ev (aj 140 [pB 0,J 1] m)=(pb n 1).bi (m.p 0 (ad [J (aL (n+1))] 213))):
 ay (bB λe i=>¬4096<aL (n+1)/\Cn t d (aL (n+1)) v bU vs cT e i) ca ap (λc s=>4096<aL (n+1)/\EX 5 c s/\s.h.g 0=O (ad [J (aL (n+1))] 213)) (aF Z ev 139 (z f139 [Y,G,Y,Y,Y]) tm h):=by
 let⟨j,hn,g0,g1,g2,t3,t4,t5,t7,t9⟩:=g;by_cases b:4096<aL (n+1)
 .have a:∀(m:H),ae m 0 (ad [J n] 213)->ev (aj 140 [pB 0,J 1] m)=.p [⟨cL 5,G,G⟩] (m.p 0 (ad [J (aL (n+1))] 213)) U:=λm f=>by rw[a m f];unfold pb;rw[if_pos b];rfl
  simp[z,f139,t3,Px,a,g0];exact⟨b,rfl,rfl,rfl⟩
 .have a:∀(m:H),ae m 0 (ad [J n] 213)->ev (aj 140 [pB 0,J 1] m)=.r (aTu []) (m.p 0 (ad [J (aL (n+1))] 213)) U:=λm f=>by rw[a m f];unfold pb;rw[if_neg b];rfl
  simp[z,f139,t3,Px,a,g0];exact .mk ⟨by omega,by simp[j],by simp[hn],by simp,by simp[g1],by simp[g2],by simp[t3],by simp[t4],by simp[t5],by simp[t7],by simp[t9]⟩
def apt(f:Cn t d n v bU vs cT tm h):
 ay (bB λa b=>b.b=0/\aa a 7 (pB 2)/\aa a 8 (zP (yF (t.w=0)))/\ae b 2 (ad z5 31)/\ae b 0 (ad [J n] 213)) ca ap ap (jN Z ev ⟨139,U⟩ Kv Y ⟨tm,[],h,U⟩):=by
 let⟨e,hn,g0,g1,g2,t3,t4,t5,t7,t9⟩:=f;rw[dJ];generalize bj Kv.toList 0 .Nl=k;have g:1<h.n:=by omega
 have i:2<h.n:=by omega
 have s:=λ(j:H)(q:ae j 2 (ad z5 31))=>fp (c:=z5) rfl rfl q rfl;simp[Kv,bq,z,f139,t5,t7,e,g1,g2,g,i,cV,cZ,cY,dc,dt,cO,cR,jn,s];exact .mk ⟨by simp[e],by simp[t7],by simp,by simp,by simp[g0]⟩
end
def arU(bU:Int)(vs:List zA)(cT:List Int)(hl:I cT=I vs)(l:I vs<ao):∀(x:(zA×Int)×Int)(C:aV),aR Z prog C->bQ C 140 213 G (λ_:Int×Int=>True) Pw (λx=>[J x.1]) (λx=>[J (aL (x.1+x.2))]) (λx=>pb x.1 x.2)->
 Has C 138 (λx:(zA×Int)×(Int×List zA)=>I x.2.2<ao) (λx=>[D x.1.1,J x.1.2]++[ar (J x.2.1) 0,ar (al x.2.2) 0]) (λx=>J (iy x.2.1 (I x.2.2) x.1.1 x.1.2))->
 gJ 213 G [J (aL (x.2+fk bU (I vs) cT x.1.1 x.1.2))] (cB Z (af Z C 4) 139 (Py bU vs cT 0 x) (H.e.w (ad [J x.2] 213)) U (Z.f 139)) (oF x.1.1 (aL (x.2+fk bU (I vs) cT x.1.1 x.1.2))):=by
 rintro⟨⟨t,d⟩,n⟩ C hC P Q;have a:∀f m,af Z C f (.call (pS bU vs) [D t,J d] m U)=.r (J (iy bU (I vs) t d)) m U:=λf m=>Q.FY (T:=Z) f (x:=((t,d),(bU,vs))) l rfl m;have b:∀f(m:H) k,ae m 0 (ad [J n] 213)->af Z C f (aj 140 [pB 0,J k] m)=(pb n k).bi (m.p 0 (ad [J (aL (n+k))] 213)):=λf m k y=>P.ev (T:=Z) f (x:=(n,k)) trivial y;refine lm F139 aim rfl ?_;show ay (cn Z _ 213 G (oF t (aL (n+fk bU (I vs) cT t d))) _) (cn Z _ 213 G (oF t (aL (n+fk bU (I vs) cT t d))) _) ap (dD 213 G (oF t (aL (n+fk bU (I vs) cT t d))) _) _;generalize l:iy bU (I vs) t d=v at a
 refine ax (Q0:=λtm h=>h=((H.e.w (ad [J n] 213)).w (ad (ah (D t)) 31)).w (ad z5 31)/\aa tm 1 (J d)/\aa tm 2 (ar (pS bU vs) 0)/\aa tm 3 (ar (pB 0) 0)/\aa tm 4 (ar (CW cT) 0)/\
  aa tm 5 (pB 1)/\aa tm 7 (pB 2)) ?_ λtm h⟨e0,t1,t2,F,L,g,o⟩=>?_
 .simp[z,f139];exact .mk ⟨rfl,by simp,by simp,by simp,by simp,by simp,by simp⟩
 subst e0
 have last:∀tm h c,¬4096<c->c=aL (n+fk bU (I vs) cT t d)->Cn t d c v bU vs cT tm h->ay (cn Z [yB 7 31,.tmp 8] 213 G (oF t (aL (n+fk bU (I vs) cT t d))) [J (aL (n+fk bU (I vs) cT t d))]) (cn Z [yB 7 31,.tmp 8] 213 G (oF t (aL (n+fk bU (I vs) cT t d))) [J (aL (n+fk bU (I vs) cT t d))]) ap
  (dD 213 G (oF t (aL (n+fk bU (I vs) cT t d))) [J (aL (n+fk bU (I vs) cT t d))]) (aF Z (af Z C 4) 139 (zS (yM 5 Kv Y) .ret) tm h):=λtm h c r R u=>by
  refine ax ((apt u).Mo fP dN aP aP) λtm h⟨w,o,t8,M,N⟩=>?_;rw[<-R];unfold oF;rw[if_neg r];simp;have p:=fh (c:=z5) rfl;exact⟨rfl,rfl,aTu [aAg z5,zP (yF (t.w=0))],_,h,rfl,by simp[o,t8,M,w,p],.Tt (.Cs (rS _) ka),N⟩
 have stop:∀c s k,c=aL (n+fk bU (I vs) cT t d)->4096<c/\EX 5 k s/\s.h.g 0=O (ad [J c] 213)->dD 213 G (oF t (aL (n+fk bU (I vs) cT t d))) [J (aL (n+fk bU (I vs) cT t d))] k s:=λc s k R⟨e,⟨j,S,h4⟩,h5⟩=>by rw[<-R];unfold oF;rw[if_pos e];exact⟨j,S,cL 5,cL 5,rfl,h4,.Pu (mO 5),h5⟩
 refine ax (Q0:=λtm h=>∃c,¬4096<c/\c=aL (n+fk bU (I vs) cT t d)/\Cn t d c v bU vs cT tm h) ?_ λtm h⟨c,e,j,S⟩=>last tm h c e j S;refine ax (Q0:=λtm h=>Cn t d n v bU vs cT tm h) ?_ λtm h u=>?_
 .simp[z,f139,t1,t2,g,adQ,a];exact .mk ⟨by simp,by simp,by simp,by simp,by simp,by simp[F],by simp[L],by simp[g],by simp[o],by simp⟩
 refine ax (Q0:=λtm h=>Cn t d n v bU vs cT tm h/\aa tm 20 (zP (yF (t.w=0/\0<=v)))) ?_ λtm h⟨u,V⟩=>?_
 .let⟨w,hn,N,g1,M,F,L,g,o,t9⟩:=u;by_cases e:t.w=0
  .simp[z,f139,g,t9,w,g1,e];exact .mk ⟨⟨w,hn,N,g1,M,by simp[F],by simp[L],by simp[g],by simp[o],by simp[t9]⟩,by simp⟩
  .simp[z,f139,g,t9,w,g1,e];exact .mk ⟨⟨w,hn,N,g1,M,by simp[F],by simp[L],by simp[g],by simp[o],by simp[t9]⟩,by simp⟩
 rw[oR];simp only[qI,V];by_cases r:t.w=0/\0<=v
 .rw[show yF (t.w=0/\0<=v)=Y by simp[r],rG,eg];let⟨e,j⟩:=r;obtain⟨i,hi⟩:∃i:Nat,v=i:=⟨_,(wk j).symm⟩;have A:i<I cT:=by have:=JM (bU:=bU) (n:=I vs) (t:=t) (d:=d) (by rw[l];exact j);omega
  have B:fk bU (I vs) cT t d=cT[i]:=by unfold fk;rw[if_pos ⟨e,by rw[l];exact j⟩,l,hi];simp[A]
  exact(apr u A hi (λm y=>b 4 m _ y)).Mo (λs⟨W,X,q3,q4⟩=>⟨W,X,_,q3,by rw[B],q4⟩) dN aP (λc s q=>stop _ s c (by rw[B]) q)
 .rw[show yF (t.w=0/\0<=v)=G by simp only[decide_eq_false_iff_not];exact r,Aa]
  have B:fk bU (I vs) cT t d=1:=by unfold fk;rw[l,if_neg r]
  exact(aps u (λm y=>b 4 m _ y)).Mo (λs⟨W,X,q3,q4⟩=>⟨W,X,_,q3,by rw[B],q4⟩) dN aP (λc s q=>stop _ s c (by rw[B]) q)
end Go.Proofs.YtpeialehpoilbaaGreat
namespace Go.Am.Eu
mutual
def iM(s:zA->Int->Int):zA->Int->Int->Int×Except Int zA
 |.mk k i n ls ks,d,c=>if 4096<aL (c+s (.mk k i n ls ks) d)then(aL (c+s (.mk k i n ls ks) d),yZ 5)else if k=0 then(aL (c+s (.mk k i n ls ks) d),.ok zT)else
  match lM s k 0 ks d (aL (c+s (.mk k i n ls ks) d))with
  |(c2,.ok P7)=>(c2,.ok (zT.rN P7))
  |(c2,yZ e)=>(c2,yZ e)
def lM(s:zA->Int->Int)(k:Int)(i:Nat):List zA->Int->Int->Int×Except Int (List zA)
 |[],_,c=>(c,.ok [])
 |t::r,d,c=>match iM s t (aL (d+eN k i)) c with
  |(c1,yZ e)=>(c1,yZ e)
  |(c1,.ok t')=>match lM s k (i+1) r d c1 with
   |(c2,.ok r')=>(c2,.ok (t'::r'))
   |(c2,yZ e)=>(c2,yZ e)
end
def acj(s:zA->Int->Int){t:zA}{d c:Int}:iM s t d c=if 4096<aL (c+s t d)then(aL (c+s t d),yZ 5)else if t.w=0 then(aL (c+s t d),.ok zT)else
 match lM s t.w 0 t.M d (aL (c+s t d))with
 |(a,.ok b)=>(a,.ok (zT.rN b))
 |(a,yZ e)=>(a,yZ e):=by cases t;rw[iM];rfl
def SF(s:zA->Int->Int){d c:Int}:lM s e i [] d c=(c,.ok []):=by rw[lM]
def R9(s:zA->Int->Int){t:zA}{d c:Int}:lM s e i (t::y) d c=match iM s t (aL (d+eN e i)) c with
 |(b,yZ a)=>(b,yZ a)
 |(b,.ok g)=>match lM s e (i+1) y d b with
  |(f,.ok h)=>(f,.ok (g::h))
  |(f,yZ a)=>(f,yZ a):=by rw[lM]
def An(s:zA->Int->Int)(k d:Int)(ts b:List zA)(c:Int):Int×Except Int (List zA):=
 match lM s k (I ts) (b.drop (I ts)) d c with|(a,.ok r)=>(a,.ok (ts++r))|(a,yZ e)=>(a,yZ e)
def ain{s:zA->Int->Int}{d c f:Int}{ts :List zA}{t :zA}(g:y[I ts]?=O a)(i:iM s a (aL (d+eN e (I ts))) c=(f,.ok t)):An s e d ts y c=An s e d (ts++[t]) y f:=by
 let⟨h,g⟩:=yf.1 g;unfold An;rw[yK h,R9,g,i];simp only[yD,wJ];cases lM s e (I ts+1) (y.drop (I ts+1)) d f with
 |mk j r=>cases r with
  |ok r=>simp
  |error b=>rfl
def ahb{s:zA->Int->Int}{d c h:Int}{ts :List zA}{b:Int}(f:y[I ts]?=O a)(i:iM s a (aL (d+eN e (I ts))) c=(h,yZ b)):An s e d ts y c=(h,yZ b):=by let⟨g,f⟩:=yf.1 f;unfold An;rw[yK g,R9,f,i]
def ahc{s:zA->Int->Int}{d c:Int}{ts :List zA}(h:I y<=I ts):An s e d ts y c=(c,.ok ts):=by unfold An;rw[yN h,SF];simp
def ahe{s:zA->Int->Int}{d c:Int}:An s e d [] y c=lM s e 0 y d c:=by
 unfold An;simp;cases lM s e 0 y d c with
 |mk a r=>cases r<;>rfl
end Go.Am.Eu
namespace Go.Proofs.YtpeialehpoilbaaGreat
structure AR(vf:E)(t:zA)(d:Int)(ts:List zA)(c:Int)(k:Nat)(tm:Tr E)(h:H):Prop where
 base:h.b=0
 next:6<=h.n
 gc:h.g 0=O (K [J c] 213 G)
 g0:h.g 1=O (K [vf] 216 G)
 g1:h.g 2=O (K (ah (D t)) 31 G)
 g2:h.g 3=O (K z5 31 G)
 g3:h.g 4=O (K [J 0,J 0,zN ⟨#[]⟩,aO [],zL (O ⟨5,0,U⟩) (I t.M) (I t.M)] 31 G)
 g4:h.g 5=O (K (gw (I t.M) ts).flatten 31 G)
 le:I ts<=I t.M
 t2:tm.g 2=O (J d)
 t3:tm.g 3=O (zM (O ⟨1,0,U⟩))
 t4:tm.g 4=O (zM (O ⟨2,0,U⟩))
 t6:tm.g 6=O (zM (O ⟨3,0,U⟩))
 t7:tm.g 7=O (zM (O ⟨4,0,U⟩))
 t32:tm.g 32=O (al t.M)
 t33:tm.g 33=O (J (I t.M:Nat))
 t34:tm.g 34=O (J k)
section
variable{ev:zC->ag}{vf:E}{t:zA}{d c:Int}{ts:List zA}{tm:Tr E}{h:H}
def akb(st:AR vf t d ts c (I ts) tm h)(M:I ts<I t.M)(hB:n+1=h.n)(hB5:6<=n)(y:ae h n (ad (ah (D t.M[I ts])) 31))(V:aa tm 9 (J (I ts:Nat)))(A:aa tm 10 (pB n))
 {r:Except Int zA}(i:∀m,ev (aj 167 [J t.w,J (I ts:Nat)] m)=.r (J (eN t.w (I ts:Nat))) m U)(f:∀m:H,ae m 0 (ad [J c] 213)->ev (aj 141 [aAg [vf],D t.M[I ts],J (aL (d+eN t.w (I ts:Nat)))] m)=(dg r).bi (m.p 0 (ad [J e] 213))):
 ay (λs=>s.df=[]/\s.ab=U/\∃g,r=.ok g/\AR vf t d (ts++[g]) e (I ts) s.tm s.h) ca ap (λk s=>∃a,r=yZ a/\EX a k s/\s.h.g 0=O (ad [J e] 213)) (jN Z ev ⟨141,U⟩ Ay Y ⟨tm,[],h,U⟩):=by
 let⟨hb,h5,gc,g0,g1,g2,g3,g4,N,t2,t3,t4,t6,t7,t32,t33,t34⟩:=st;rw[dJ];have W:=aay;simp only[zX]at W;let⟨⟨⟨⟨⟨P,C⟩,j⟩,u⟩,v⟩,w⟩:=W;have a:bj Ay.toList 0 .Nl=Ar:=rfl;rw[a];generalize Ar=X at*;have L:0<h.n:=by omega
 have l1:1<h.n:=by omega
 have l2:2<h.n:=by omega
 have l4:4<h.n:=by omega
 have l5:5<h.n:=by omega
 have lB:n<h.n:=by omega
 have nB0:¬n=0:=by omega
 have F:¬0=n:=by omega
 have nB5:¬n=5:=by omega
 have Q:¬5=n:=by omega
 have ix:=λ(h:H)=>Ha (h:=h) (b:=5) (m:=I t.M) (k:=zx) M;have sr:=λ(h0:H)(q:ae h0 5 (ad (gw (I t.M) ts).flatten 31))(g:zA)=>M3 (t:=g) q (ML _ _) (by rw[M4 N];exact M);have dq:∀(h:H),h.b=0->0<h.n->∀(l:List aG)(k:List aG->S->ag)(tm:Tr E)(R:List zc)(T:Option (List zO))(o:ai),fe (aE X 11) ⟨11,bit 0,bit 0⟩ l=Y->gG k X l 11 tm R h T (h.f.p 0 o)=k (⟨11,bit 0,bit 0⟩::l) ⟨tm,R,h.p 0 o,T⟩:=λh hb L l k tm R T o ha=>cV (hb:=hb) (cA:=L) (ha:=ha) ..;cases r with
 |ok g=>
  have f:∀m:H,ae m 0 (ad [J c] 213)->ev (aj 141 [aAg [vf],D t.M[I ts],J (aL (d+eN t.w (I ts:Nat)))] m)=.r (D g) (m.p 0 (ad [J e] 213)) U:=f;simp+contextual [Ay,bq,iT,jB,z,ak,sub,f141,t2,t3,t4,t7,V,A,hb,gc,g0,g1,g3,g4,y,ob,Lh,L,l1,l2,l4,l5,lB,i,f,ix,sr,dq,cV,cY,cZ,dc,C,j,u,v,w,dt,cO,cR,F,Q]
  have hr:(List.map tc ts).flatten++((xI (I t.M-I ts) z5).set 0 (tc g)).flatten=(gw (I t.M) (ts++[g])).flatten:=by rw[<-M5 g M];simp[gw]
  rw[hr];exact⟨by simp[hb],by simpa using h5,by simp,by simp[g0],by simp[g1],by simp[g2],by simp[g3],by simp,by simp;omega,by simp[t2],by simp[t3],by simp[t4],by simp[t6],by simp[t7],by simp[t32],by simp[t33],by simp[t34]⟩
 |error er=>
  have f:∀m:H,ae m 0 (ad [J c] 213)->ev (aj 141 [aAg [vf],D t.M[I ts],J (aL (d+eN t.w (I ts:Nat)))] m)=.p [⟨cL er,G,G⟩] (m.p 0 (ad [J e] 213)) U:=f;have am:=λ(bp:Nat)(x:aG)(l:List aG)(q:x.i=11)=>qo (p:=11) (bp:=bp) x l (.inl q);simp+contextual [Ay,bq,iT,jB,z,ak,sub,f141,t2,t3,t4,t7,V,A,hb,gc,g0,g1,g3,y,ob,Lh,L,l1,l2,l4,lB,i,f,ol,rM,P,C,dq,cY,cZ,dc,dt,cO,cR,F,am];exact⟨rfl,rfl,rfl⟩
end
section
variable{ev:zC->ag}{vf:E}{t:zA}{d c:Int}{ts:List zA}{tm:Tr E}{h:H}
def aio(u:AR vf t d ts c (I ts) tm h)(A:I ts<I t.M)(hw:I ts+1<=ao)
 {r:Except Int zA}(v:∀m,ev (aj 167 [J t.w,J (I ts:Nat)] m)=.r (J (eN t.w (I ts:Nat))) m U)(w:∀m:H,m.g 0=O (K [J c] 213 G)->ev (aj 141 [aAg [vf],D t.M[I ts],J (aL (d+eN t.w (I ts:Nat)))] m)=(dg r).bi (m.p 0 (K [J e] 213 G))):
 ay (λs=>s.df=[]/\s.ab=U/\∃i,r=.ok i/\AR vf t d (ts++[i]) e (I (ts++[i])) s.tm s.h) (λ_=>False) (λ_ _=>False) (λk s=>∃a,r=yZ a/\EX a k s/\s.h.g 0=O (K [J e] 213 G)) (aw Z ev ⟨141,U⟩ iT ⟨tm,[],h,U⟩):=by
 have e2:=dA hw;simp at e2;obtain⟨y,B,C,F,L,M,N,P,j,Q,R,S,T,V,f,g,b⟩:=u;rw[X9];refine iw (N':=λs=>s=⟨tm.s 35 (zP Y),[],h,U⟩) ?_ λs W=>?_
 .simp[iT,jB,z,ak,sub,f141,g,b,A]
 rw[W];refine iw (N':=λs=>s=⟨tm.s 35 (zP Y),[],h,U⟩) ?_ λs W=>?_
 .simp[iT,jB,z,ak,sub,f141,an]
 rw[W];refine iw (N':=λs=>s.df=[]/\s.ab=U/\∃i,r=.ok i/\AR vf t d (ts++[i]) e (I ts) s.tm s.h) ?_ λs⟨l,n,i,X,u⟩=>?_
 .rw[hU];refine mM (iw (N':=λs=>s.df=[]/\s.ab=U/\AR vf t d ts c (I ts) s.tm s.h/\s.h.n=h.n+1/\s.h.g h.n=O (K (ah (D t.M[I ts])) 31 G)/\s.tm.g 9=O (J (I ts:Nat))/\s.tm.g 10=O (zM (O ⟨h.n,0,U⟩))) ?_ λs⟨l,n,u,X,q4,q5,q6⟩=>?_)
  .have n0:¬0=h.n:=by omega
   have n1:¬1=h.n:=by omega
   have n2:¬2=h.n:=by omega
   have n3:¬3=h.n:=by omega
   have n4:¬4=h.n:=by omega
   have n5:¬5=h.n:=by omega
   simp[iT,jB,z,ak,sub,f141,f,b,A,y];exact⟨by simp[y],by simp;omega,by simp[n0,C],by simp[n1,F],by simp[n2,L],by simp[n3,M],by simp[n4,N],by simp only[jd,kP,n5,if_false];exact P,j,by simp[Q],by simp[R],by simp[S],by simp[T],by simp[V],by simp[f],by simp[g],by simp[b]⟩
  .rw[eg];obtain⟨x,o,h1,p⟩:=s;have l:o=[]:=l;have n:p=U:=n;subst l;subst n;exact(akb u A X.symm B q4 q5 q6 v w).Mo (λ_ q=>q) (λ_ q=>q.elim) (λ_ _ q=>q.elim) (λ_ _ q=>q)
 .obtain⟨x,o,h1,p⟩:=s;have l:o=[]:=l;have n:p=U:=n;subst l;subst n;obtain⟨y,B,C,F,L,M,N,P,j,Q,R,S,T,V,f,g,b⟩:=u;have b:x.g 34=O (J (I ts:Nat)):=b;simp[iT,jB,z,ak,sub,f141,b,e2];exact⟨i,X,⟨y,B,C,F,L,M,N,P,j,by simp[Q],by simp[R],by simp[S],by simp[T],by simp[V],by simp[f],by simp[g],by simp⟩⟩
def akc(b:AR vf t d ts c (I ts) tm h)(g:I t.M<=I ts):
 ay (λ_=>False) (λ_=>False) (λj s=>j=0/\s.df=[]/\s.ab=U/\AR vf t d ts c (I ts) s.tm s.h) (λ_ _=>False) (aw Z ev ⟨141,U⟩ iT ⟨tm,[],h,U⟩):=by
 let⟨e,f,gc,g0,g1,g2,g3,g4,hle,t2,t3,t4,t6,t7,t32,t33,t34⟩:=b;have a:¬I ts<I t.M:=by omega
 simp[iT,jB,z,f141,t33,t34,a,an];exact⟨e,f,gc,g0,g1,g2,g3,g4,hle,by simp[t2],by simp[t3],by simp[t4],by simp[t6],by simp[t7],by simp[t32],by simp[t33],by simp[t34]⟩
structure Wd(vf:E)(t:zA)(d c:Int)(b:Bool)(lv kv:E)(tm:Tr E)(h:H):Prop where
 base:h.b=0
 next:h.n=5
 gc:h.g 0=O (K [J c] 213 G)
 g0:h.g 1=O (K [vf] 216 G)
 g1:h.g 2=O (K (ah (D t)) 31 G)
 g2:h.g 3=O (K z5 31 G)
 g3:h.g 4=O (K [J 0,J 0,zN ⟨#[]⟩,lv,kv] 31 G)
 t2:tm.g 2=O (J d)
 t3:tm.g 3=O (zM (O ⟨1,0,U⟩))
 t4:tm.g 4=O (zM (O ⟨2,0,U⟩))
 t6:tm.g 6=O (zM (O ⟨3,0,U⟩))
 t7:tm.g 7=O (zM (O ⟨4,0,U⟩))
 t8:tm.g 8=O (zP b)
structure We(c:Int)(kv:E)(tm:Tr E)(h:H):Prop where
 base:h.b=0
 gc:h.g 0=O (K [J c] 213 G)
 g2:h.g 3=O (K z5 31 G)
 g3:h.g 4=O (K [J 0,J 0,zN ⟨#[]⟩,aO [],kv] 31 G)
 t6:tm.g 6=O (zM (O ⟨3,0,U⟩))
 t7:tm.g 7=O (zM (O ⟨4,0,U⟩))
def atX(c:Int)(a:E)(P:H->Prop)(s:S):Prop:=s.df=[]/\s.ab=U/\s.h.b=0/\s.h.g 0=O (ad [J c] 213)/\s.tm.g 6=O (pB 3)/\s.h.g 3=O (ad [J 0,J 0,zN ⟨#[]⟩,aO [],a] 31)/\P s.h
def aip{a:Option Addr}(d:We c (zL a n m) tm h)(P:H->Prop)(e:P (h.p 3 (K [J 0,J 0,zN ⟨#[]⟩,aO [],zL a n m] 31 G))):
 ay (λ_=>False) (atX c (zL a n m) P) (λ_ _=>False) (λ_ _=>False) (aw Z ev ⟨141,U⟩ (z f141 pT5) ⟨tm,[],h,U⟩):=by
 let⟨b,gc,g2,g3,t6,t7⟩:=d;have p:=fh (c:=[J 0,J 0,zN ⟨#[]⟩,aO [],zL a n m]) rfl;have s:=λ(f:H)(q:f.g 3=O (K z5 31 G))=>fp (c:=[J 0,J 0,zN ⟨#[]⟩,aO [],zL a n m]) rfl rfl q rfl;simp[z,f141,t6,t7,b,g2,g3,p,s];exact⟨rfl,rfl,by simp[b],by simp[gc],by simp[t6],by simp,e⟩
end
def akd{h:H}{ts:List zA}(d:n=I ts)(c:h.g 5=O (K (gw n ts).flatten 31 G)):DV (mB h) (zL (O ⟨5,0,U⟩) n n) (al ts):=by
 subst d;have e:gw (I ts) ts=ts.map tc:=by simp[gw]
 rw[e]at c;have a:mB h 5=O (K (ts.map tc).flatten 31 G):=by unfold mB;rw[if_neg (by omega)];exact c
 exact .of (R4 (cs:=ts.map tc) a (by simp) rfl (zR _) λi x t b f=>by rw[vu,f]at b;simp at b;subst b;exact .data _ t)
abbrev BO(a:Int)(d:List zA)(c:List Int)(b:Nat)(x:(zA×Int)×Int):List E:=[aAg [bK 139 (Hz a d c b)],D x.1.1,J x.1.2]
def avW(a:Int)(d:List zA)(c:List Int)(b:Nat)(x:(zA×Int)×Int):AM b (BO a d c 0 x) (BO a d c b x):=
 .Cs (.agg (.Cs (.func 139 (ach a d c b)) .nil)) (.Cs (.pure (bg _)) (.Cs (.pure (.Gd rfl)) .nil))
def avX{a:List Int}{x:(zA×Int)×Int}(m:M)(l:List E)(h:LR m (BO e y a n x) l):m n≠U:=by
 cases h with
 |Cs h _=>cases h with
  |agg h=>cases h with
   |Cs h _=>cases h with
    |func _ _ h=>exact aci h
def avY{a:List Int}{x:(zA×Int)×Int}(m:M)(l:List E)(h:LR m (Py e y a n x) l):m n≠U:=by
 cases h with
 |Cs _ h=>cases h with
  |Cs _ h=>exact aci h
def amP(i:Int)(F:List zA)(g:List Int)(hl:I g=I F)(hv:I F<ao):∀(N:Nat)(x:(zA×Int)×Int),zD x.1.1<N->aI iu x.1.1->∃C n,aR Z prog C/\
 gJ 213 G [J (iM (fk i (I F) g) x.1.1 x.1.2 x.2).1] (cB Z (af Z C n) 141 (BO i F g 0 x) (H.e.w (K [J x.2] 213 G)) U (Z.f 141)) (dg (iM (fk i (I F) g) x.1.1 x.1.2 x.2).2):=by
 intro N;induction N with
 |zero=>intro x hx;omega
 |succ N ih=>
  rintro⟨⟨t,d⟩,c⟩ hN hp;have hp:aI iu t:=hp;have hN:zD t<N+1:=hN;let s:=fk i (I F) g
  have avZ:AY Z prog 141 213 G (λx:(zA×Int)×Int=>zD x.1.1<N/\aI iu x.1.1) (BO i F g) (λx=>[J x.2]) (λx=>[J (iM s x.1.1 x.1.2 x.2).1]) (λx=>dg (iM s x.1.1 x.1.2 x.2).2):=λx hx h b A=>by obtain⟨C,n,hC,o⟩:=ih x hx.1 hx.2;exact o.toM tok hC (avW i F g b x) avX (.Cs (.Gd rfl) .Nl) (.Cs (.Gd rfl) .Nl) A
  have av0:AY Z prog 139 213 G (λ_:(zA×Int)×Int=>True) (Py i F g) (λx=>[J x.2]) (λx=>[J (aL (x.2+s x.1.1 x.1.2))]) (λx=>oF x.1.1 (aL (x.2+s x.1.1 x.1.2))):=λx _ h b A=>by
   have hC:aR Z prog (bY 140 (qW 213 G (λ_:Int×Int=>True) Pw (λx=>[J x.1]) (λx=>[J (aL (x.1+x.2))]) (λx=>pb x.1 x.2)) (bY 138 (gq (λx:(zA×Int)×(Int×List zA)=>I x.2.2<ao) (λx=>[D x.1.1,J x.1.2]++[ar (J x.2.1) 0,ar (al x.2.2) 0]) (λx=>J (iy x.2.1 (I x.2.2) x.1.1 x.1.2))) cg)):=
    iv (aZ aW acg) arT
   exact(arU i F g hl hv x _ hC (bQ.add λb b' x y e=>by
    obtain⟨x1,x2⟩:=x;obtain⟨y1,y2⟩:=y;simp at e;refine⟨e.1,λe2=>?_⟩;simp at e2;rw[e2,e.2];exact⟨rfl,rfl⟩) (Has.Sk (by decide) (Has.Ad λx y e=>by
    obtain⟨⟨x1,x2⟩,x3,x4⟩:=x;obtain⟨⟨y1,y2⟩,y3,y4⟩:=y;simp at e;rw[cf e.1,e.2.1,e.2.2.1,mN e.2.2.2]))).toM tok hC (.Cs (.pure (bg _)) (.Cs (.pure (.Gd rfl)) (ach i F g b))) avY (.Cs (.Gd rfl) .Nl) (.Cs (.Gd rfl) .Nl) A
  obtain⟨C,hC,k41,k67,k39⟩:∃C,aR Z prog C/\bQ C 141 213 G (λx:(zA×Int)×Int=>zD x.1.1<N/\aI iu x.1.1) (BO i F g) (λx=>[J x.2]) (λx=>[J (iM s x.1.1 x.1.2 x.2).1]) (λx=>dg (iM s x.1.1 x.1.2 x.2).2)/\
   Has C 167 (λ_:Int×Int=>True) (λx=>[J x.1,J x.2]) (λx=>J (eN x.1 x.2))/\bQ C 139 213 G (λ_:(zA×Int)×Int=>True) (Py i F g) (λx=>[J x.2]) (λx=>[J (aL (x.2+s x.1.1 x.1.2))]) (λx=>oF x.1.1 (aL (x.2+s x.1.1 x.1.2))):=by
   refine⟨_,iv (aZ (iv aW av0) aau) avZ,bQ.add λb b' x y e=>?_,Has.Sk (by decide) (Has.Ad λx y e=>?_),bQ.skip (by decide) (bQ.skip (by decide) (bQ.add λb b' x y e=>?_))⟩
   .obtain⟨⟨x1,x2⟩,x3⟩:=x;obtain⟨⟨y1,y2⟩,y3⟩:=y;simp at e;refine⟨e.1,λe2=>?_⟩;simp at e2;rw[e2,cf e.2.1,e.2.2];exact⟨rfl,rfl⟩
   .obtain⟨x1,x2⟩:=x;obtain⟨y1,y2⟩:=y;simp at e;rw[e.1,e.2]
   .obtain⟨⟨x1,x2⟩,x3⟩:=x;obtain⟨⟨y1,y2⟩,y3⟩:=y;simp at e;refine⟨e.2.2,λe2=>?_⟩;simp at e2;rw[e2,cf e.1,e.2.1];exact⟨rfl,rfl⟩
  refine⟨C,9,hC,?_⟩;let cap:=Hz i F g 0;generalize B3:aL (c+s t d)=w
  have u:∀n(m:H),m.g 0=O (K [J c] 213 G)->af Z C n (.call (bK 139 cap) [D t,J d] m U)=(oF t w).bi (m.p 0 (K [J w] 213 G)):=λn m hg=>by have:=k39 ((t,d),c) trivial m 0 hg;refine GZ n ?_;rw[List.nil_append,<-B3];exact this
  have hlen:=hp.here.1
  have f:iM s t d c=if 4096<w then(w,yZ 5)else if t.w=0 then(w,.ok zT)else match lM s t.w 0 t.M d w with
   |(Q,.ok v)=>(Q,.ok (zT.rN v))
   |(Q,yZ e)=>(Q,yZ e):=by rw[acj,B3]<;>rfl
  show gJ 213 G [J (iM s t d c).1] (cB Z (af Z C 9) 141 [aAg [bK 139 cap],D t,J d] (H.e.w (K [J c] 213 G)) U (Z.f 141)) (dg (iM s t d c).2);generalize hR:iM s t d c=R at f;refine lm F141 YL rfl ?_;have oI:bX []:=.Nl;generalize qe:bK 139 cap=vf at u;have cvf:ah vf=[vf]:=by rw[<-qe];rfl
  refine ax (Q0:=λtm h=>h=(((H.e.w (K [J c] 213 G)).w (K [vf] 216 G)).w (K (ah (D t)) 31 G)).w (K z5 31 G)/\tm.g 2=O (J d)/\tm.g 3=O (zM (O ⟨1,0,U⟩))/\tm.g 4=O (zM (O ⟨2,0,U⟩))/\tm.g 6=O (zM (O ⟨3,0,U⟩))) ?_ λtm h⟨e,S,V,B,L⟩=>?_
  .simp[z,ak,sub,f141];exact .mk ⟨rfl,by simp,by simp,by simp,by simp⟩
  subst e;by_cases Qf:4096<w
  .rw[if_pos Qf]at f;subst f
   have u:∀n(m:H),m.g 0=O (K [J c] 213 G)->af Z C n (.call vf [D t,J d] m U)=.p [⟨cL 5,G,G⟩] (m.p 0 (K [J w] 213 G)) U:=λn m hg=>by rw[u n m hg];unfold oF;rw[if_pos Qf];rfl
   rw[run_seq];simp[z,ak,sub,f141,S,V,B,Li,u];exact dD.pure (mO 5) (by simp)
  rw[if_neg Qf]at f
  have u:∀n(m:H),m.g 0=O (K [J c] 213 G)->af Z C n (.call vf [D t,J d] m U)=.r (aTu [D zT,zP (yF (t.w=0))]) (m.p 0 (K [J w] 213 G)) U:=λn m hg=>by rw[u n m hg];unfold oF;rw[if_neg Qf];rfl
  have czT:ah (D zT)=[J 0,J 0,zN ⟨#[]⟩,aO [],al []]:=by rw[dP];rfl
  refine ax (Q0:=Wd vf t d w (yF (t.w=0)) (aO []) (al [])) ?_ λtm h M=>?_
  .simp[z,ak,sub,f141,S,V,B,Li,u];exact .mk ⟨by simp,by simp,by simp,by simp,by simp,by simp,by simp[czT],by simp[S],by simp[V],by simp[B],by simp[L],by simp,by simp⟩
  by_cases hk:t.w=0
  .rw[if_pos hk]at f;subst f;obtain⟨A,W,gc,g0,g1,g2,g3,S,V,B,L,X,t8⟩:=M;have Wb:h.g 4=O (K (ah (D zT)) 31 G):=by rw[czT];exact g3
   have t8:tm.g 8=O (zP Y):=by rw[t8,hk];rfl
   rw[run_seq];simp[z,ak,sub,f141,S,V,B,L,X,t8,A,g0,g1,g2,Wb,an];refine cn.pure (bg zT) ⟨h.p 3 (K (ah (D zT)) 31 G),?_,by simp[gc]⟩;simp[L,A]
  rw[if_neg hk]at f;have hk':yF (t.w=0)=G:=by simp[hk]
  rw[hk']at M;refine ax (Q0:=Wd vf t d w G (aO []) (al [])) ?_ λtm h M=>?_
  .obtain⟨A,W,gc,g0,g1,g2,g3,S,V,B,L,X,t8⟩:=M;simp[z,ak,sub,f141,t8,an];exact .mk ⟨A,W,gc,g0,g1,g2,g3,by simp[S],by simp[V],by simp[B],by simp[L],by simp[X],by simp[t8]⟩
  refine ax (Q0:=Wd vf t d w G (aO []) (zL U 0 0)) ?_ λtm h M=>?_
  .obtain⟨A,W,gc,g0,g1,g2,g3,S,V,B,L,X,t8⟩:=M;have s:=JW g3 U 0 0;simp[z,ak,sub,f141,X,s];exact .mk ⟨by simp[A],by simp[W],by simp[gc],by simp[g0],by simp[g1],by simp[g2],by simp,by simp[S],by simp[V],by simp[B],by simp[L],by simp[X],by simp[t8]⟩
  have tail:∀tm h,(∃a n m Q v,lM s t.w 0 t.M d w=(Q,.ok v)/\We Q (zL a n m) tm h/\∀o,DV (mB (h.p 3 o)) (zL a n m) (al v))->
   ay (cn Z [yB 6 31] 213 G (dg R.2) [J R.1]) (cn Z [yB 6 31] 213 G (dg R.2) [J R.1]) (λ_ _=>False) (dD 213 G (dg R.2) [J R.1]) (aw Z (af Z C (8+1)) ⟨141,U⟩ (z f141 pT5) ⟨tm,[],h,U⟩):=by
   rintro tm h ⟨a,n,m,Q,v,e,M,hd⟩;refine(aip M (λh'=>DV (mB h') (zL a n m) (al v)) (hd _)).Mo (λ_ q=>q.elim) (λs q=>?_) (λ_ _ q=>q.elim) (λ_ _ q=>q.elim);obtain⟨q1,q2,q3,qc,q4,q5,q6⟩:=q;rw[f,e];have p:=fh (c:=[J 0,J 0,zN ⟨#[]⟩,aO [],zL a n m]) rfl;refine⟨q1,q2,aAg [J 0,J 0,zN ⟨#[]⟩,aO [],zL a n m],D (zT.rN v),s.h,rfl,?_,?_,qc⟩
   .simp[q3,q4,q5,p]
   .rw[GG,By];exact .agg (.Cs (.Pu (.Gd rfl)) (.Cs (.Pu (.Gd rfl)) (.Cs (.Pu (.Gd rfl)) (.Cs (.Pu (jM _)) (.Cs q6 .Nl)))))
  obtain⟨A,W,gc,g0,g1,g2,g3,S,V,B,L,X,t8⟩:=M;refine ax (Q0:=λtm h=>∃a n m Q v,lM s t.w 0 t.M d w=(Q,.ok v)/\We Q (zL a n m) tm h/\∀o,DV (mB (h.p 3 o)) (zL a n m) (al v)) ?_ tail;by_cases hz:t.M=[]
  .simp[z,ak,sub,f141,B,A,g1,hz,an];exact .mk ⟨U,0,0,w,[],by rw[SF],⟨A,gc,g2,g3,by simp[L],by simp[X]⟩,λo=>.cP⟩
  .have BH:0<I t.M:=tU.2 hz;refine ax (Q0:=λl h'=>h'=h/\l.g 25=O (zP Y)/\l.g 2=tm.g 2/\l.g 3=tm.g 3/\l.g 4=tm.g 4/\l.g 6=tm.g 6/\l.g 7=tm.g 7) ?_ λfQ h1⟨e1,Wc,k2,k3,k4,k6,k7⟩=>?_
   .simp[z,ak,sub,f141,B,A,g1];exact .mk ⟨rfl,by simp[BH],by simp[S],by simp[V],by simp[B],by simp[L],by simp[X]⟩
   subst e1;rw[S]at k2;rw[V]at k3;rw[B]at k4;rw[L]at k6;rw[X]at k7;rw[ZE,oR];simp only[qI,Wc,rG];rw[X8]
   refine ax (Q0:=λl h'=>h'.b=0/\h'.n=6/\h'.g 0=O (K [J w] 213 G)/\h'.g 1=O (K [vf] 216 G)/\h'.g 2=O (K (ah (D t)) 31 G)/\h'.g 3=O (K z5 31 G)/\
    h'.g 4=O (K [J 0,J 0,zN ⟨#[]⟩,aO [],zL (O ⟨5,0,U⟩) (I t.M) (I t.M)] 31 G)/\h'.g 5=O (K (gw (I t.M) []).flatten 31 G)/\
    l.g 2=fQ.g 2/\l.g 3=fQ.g 3/\l.g 4=fQ.g 4/\l.g 6=fQ.g 6/\l.g 7=fQ.g 7) ?_ λjH h2⟨b0,b1,bc,b2,b3,b4,b5,b6,j2,j3,j4,j6,j7⟩=>?_
   .have mk:=λh=>Pt h (n:=I t.M) (by omega);have s:=λ(h0:H)(q:h0.g 4=O (K [J 0,J 0,zN ⟨#[]⟩,aO [],zL U 0 0] 31 G))(b:Nat)=>JW q (O ⟨b,0,U⟩) (I t.M) (I t.M);simp[jB,z,ak,sub,f141,k4,k7,A,g1,mk,s,W,g3];refine .mk ⟨by simp[A],by simp[W],by simp[W,gc],by simp[W,g0],by simp[W,g1],by simp[W,g2],by simp,?_,by simp[k2],by simp[k3],by simp[k4],by simp[k6],by simp[k7]⟩;simp[W,Pv,gw]
   rw[k2]at j2;rw[k3]at j3;rw[k4]at j4;rw[k6]at j6;rw[k7]at j7;refine ax (Q0:=AR vf t d [] w 0) ?_ λru h3 M=>?_
   .simp[jB,z,ak,sub,f141,j4,b0,b3];exact .mk ⟨b0,by omega,bc,b2,b3,b4,b5,b6,by simp,by simp[j2],by simp[j3],by simp[j4],by simp[j6],by simp[j7],by simp,by simp,by simp⟩
   refine pE 4 (λj s'=>∃ts c',j=I t.M-I ts/\bB (AR vf t d ts c' (I ts)) s'/\lM s t.w 0 t.M d w=An s t.w d ts t.M c') (I t.M) ⟨[],w,by simp,.mk M,ahe.symm⟩ (by omega) ?_;rintro j s' m ⟨ts,c',rfl,hs,P⟩ hm;obtain⟨Cb,h4,rfl,M⟩:=hs.elim;by_cases cA:I ts<I t.M
   .have hx:t.M[I ts]?=O t.M[I ts]:=zm cA;have Lj:t.M[I ts]∈t.M:=zW cA;generalize hr:iM s t.M[I ts] (aL (d+eN t.w (I ts))) c'=r;obtain⟨Q,r⟩:=r;have U3:∀m',af Z C m (aj 167 [J t.w,J (I ts:Nat)] m')=.r (J (eN t.w (I ts:Nat))) m' U:=λm'=>k67.ev (T:=Z) m (x:=(t.w,(I ts:Int))) trivial m'
    have Lk:∀m':H,m'.g 0=O (K [J c'] 213 G)->af Z C m (aj 141 [aAg [vf],D t.M[I ts],J (aL (d+eN t.w (I ts:Nat)))] m')=(dg r).bi (m'.p 0 (K [J Q] 213 G)):=λm' hg=>by have:=k41.ev (T:=Z) m (x:=((t.M[I ts],aL (d+eN t.w (I ts))),c')) ⟨by have:=mg Lj;show zD t.M[I ts]<N;omega,hp.ld Lj⟩ hg;rw[<-qe];simp only[hr]at this;exact this
    refine(aio M cA (by unfold ao;omega) U3 Lk).Mo (λCc q=>?_) (λ_ q=>q.elim) (λ_ _ q=>q.elim) (λk Cc q=>?_)
    .obtain⟨q1,q2,t',q3,q4⟩:=q;rw[q3]at hr;refine⟨_,?_,ts++[t'],Q,rfl,⟨q1,q2,q4⟩,by rw[P,ain hx hr]⟩;simp;omega
    .obtain⟨er,q1,⟨q2,q3,q4⟩,q5⟩:=q;rw[q1]at hr;rw[P,ahb hx hr]at f;subst f;exact⟨q2,q3,cL er,cL er,rfl,q4,.Pu (mO er),q5⟩
   .refine(akc M (by omega)).Mo (λ_ q=>q.elim) (λ_ q=>q.elim) (λj Cc q=>⟨q.1,q.2.1,q.2.2.1,?_⟩) (λ_ _ q=>q.elim);obtain⟨A,h5,gc,g0,g1,g2,g3,g4,hle,S,V,B,L,X,t32,t33,t34⟩:=q.2.2.2;have hl:I t.M=I ts:=by omega
    rw[ahc (by omega)]at P;refine⟨O ⟨5,0,U⟩,I t.M,I t.M,c',ts,P,⟨A,gc,g2,g3,L,X⟩,λo=>akd hl ?_⟩;rw[jd];simp only[show¬(5=3)by omega,if_false];exact g4
end Go.Proofs.YtpeialehpoilbaaGreat
namespace Go.Am.Eu
def iz(c:List zA)(a:Int)(t:zA)(b:Int):Except Int zA:=
 if 0<=iy a (I c) t b then qN (c.getD (iy a (I c) t b).toNat zT) (aL (a+b)) 0 else if aL (t.Q-b)<a then .ok t.bare else oX (aL (t.Q-I c))
end Go.Am.Eu
namespace Go.Proofs.YtpeialehpoilbaaGreat
def F143:Z.f 143=O f143:=by kernel_rfl
def Kw:Array Oper:=bq (z f143 [Y,G,Y,Y,G,G])
def aiq:f143.body=O (zS (z f143 pF0) (zS (zS (z f143 [Y,G,G]) (zS (z f143 [Y,G,Y,G]) (.cond (.tmp 14) (zS (yM 3 Kw Y) .ret) we))) (z f143 pT2))):=rfl
def TL:Tr Nat:=bj Kw.toList 0 .Nl
def amQ:aN (aE TL 8) 7=Y:=by kernel_rfl
def Oi(c:List zA)(bU:Int)(X:∀v∈c,aI iu v)(hn:I c<ao):Uw 143 [ar (pS bU c) 0,ar (al c) 0,ar (J bU) 0] mD (iz c bU):=by
 refine⟨.Cs (je (Rj bU c)) (.Cs (je (fb c)) (.Cs (je bJ) .Nl)),by decide,λ⟨t,d⟩ L h0=>?_⟩;have L:mD t:=L
 obtain⟨C,hC,h45,h46,h44,h38⟩:∃C,aR Z prog C/\bS C 145 mD (λt=>[D t]) (λt=>.ret (D t.bare))/\bS C 146 (λ_:Int=>True) (λn=>[J n]) Hv/\
  bS C 144 (λx:zA×Int×Int=>aI iu x.1) (λx=>[D x.1,J x.2.1,J x.2.2]) (λx=>dg (qN x.1 x.2.1 x.2.2))/\
  Has C 138 (λx:(zA×Int)×(Int×List zA)=>I x.2.2<ao) (λx=>[D x.1.1,J x.1.2]++[ar (J x.2.1) 0,ar (al x.2.2) 0]) (λx=>J (iy x.2.1 (I x.2.2) x.1.1 x.1.2)):=
  ⟨_,jL (jL (jL (aZ aW acg) amN) aav) NE,bS.add λx y _ _ e=>(by simp at e;rw[cf e]),bS.skip (by decide) (bS.add λx y _ _ e=>(by simp at e;rw[e])),bS.skip (by decide) (bS.skip (by decide) (bS.add λx y _ _ e=>(by
     let⟨x1,x2,x3⟩:=x;let⟨y1,y2,y3⟩:=y;simp at e;rw[cf e.1,e.2.1,e.2.2]))),Has.Sk (by decide) (Has.Sk (by decide) (Has.Sk (by decide) (Has.Ad λx y e=>(by
     let⟨⟨x1,x2⟩,x3,x4⟩:=x;let⟨⟨y1,y2⟩,y3,y4⟩:=y;simp at e;rw[cf e.1,e.2.1,e.2.2.1,mN e.2.2.2]))))⟩
 have N:∀n m,af Z C n (aj 145 [D t] m)=.r (D t.bare) m U:=λn m=>h45.ev (T:=Z) n (x:=t) L m;have l:∀n m k,af Z C n (aj 146 [J k] m)=(dg (oX k)).bi m:=λn m k=>by rw[<-ZF];exact h46.ev (T:=Z) n (x:=k) trivial m
 have f:∀n m v a b,aI iu v->af Z C n (aj 144 [D v,J a,J b] m)=(dg (qN v a b)).bi m:=λn m v a b hv=>h44.ev (T:=Z) n (x:=(v,a,b)) hv m;have F:∀n' m,af Z C n' (.call (pS bU c) [D t,J d] m U)=.r (J (iy bU (I c) t d)) m U:=λn' m=>h38.FY (T:=Z) n' (x:=((t,d),(bU,c))) hn rfl m;refine mi tok C hC (.Cs (bg t) (.Cs bJ (.Cs (je (Rj bU c)) (.Cs (je (fb c)) (.Cs (je bJ) .Nl))))) 3 F143 aiq rfl ?_ h0;show ay (bG Z [yB 7 31] _ (dg (iz c bU t d))) (bG Z [yB 7 31] _ (dg (iz c bU t d))) ap (iX _ (dg (iz c bU t d))) _;generalize q:iz c bU t d=R;unfold iz at q;generalize hv:iy bU (I c) t d=v at F q
 refine ax (Q0:=λj h=>h=((H.e.w (ad (ah (D t)) 31)).w (ad z5 31))/\aa j 1 (J d)/\aa j 2 (ar (pS bU c) 0)/\aa j 3 (ar (al c) 0)/\aa j 4 (ar (J bU) 0)/\
  aa j 5 (pB 0)/\aa j 7 (pB 1)) ?_ λj h⟨M,r,t2,A,w,B,s⟩=>?_
 .simp[z,f143];exact .mk ⟨rfl,by simp,by simp,by simp,by simp,by simp,by simp⟩
 subst M
 have last:¬0<=v->∀j h,h=((H.e.w (ad (ah (D t)) 31)).w (ad z5 31))->aa j 1 (J d)->aa j 3 (ar (al c) 0)->aa j 4 (ar (J bU) 0)->aa j 5 (pB 0)->aa j 7 (pB 1)->
  ay (bG Z [yB 7 31] (λh=>h.g) (dg R)) (bG Z [yB 7 31] (λh=>h.g) (dg R)) ap (iX (λh=>h.g) (dg R)) (aF Z (af Z C 4) 143 (z f143 pT2) j h):=λP j h M r A w B s=>by
  subst M;rw[if_neg P]at q;by_cases p:aL (t.Q-d)<bU
  .rw[if_pos p]at q;subst q;simp[z,f143,r,w,B,s,p,an,N];exact bG.Pu (bg _) (by simp[s])
  .rw[if_neg p]at q;cases W:oX (aL (t.Q-I c))with
   |ok u=>
    rw[W]at q;subst q;have l:∀n m,af Z C n (aj 146 [J (aL (t.Q-I c))] m)=.r (D u) m U:=λn m=>by rw[l,W];rfl
    simp[z,f143,r,A,w,B,s,p,an,l];exact bG.Pu (bg _) (by simp[s])
   |error Q=>
    rw[W]at q;subst q;have l:∀n m,af Z C n (aj 146 [J (aL (t.Q-I c))] m)=.p [⟨cL Q,G,G⟩] m U:=λn m=>by rw[l,W];rfl
    simp[z,f143,r,A,w,B,p,an,l];exact iX.pure (mO Q)
 refine ax (Q0:=λj h=>¬0<=v/\h=((H.e.w (ad (ah (D t)) 31)).w (ad z5 31))/\aa j 1 (J d)/\aa j 3 (ar (al c) 0)/\aa j 4 (ar (J bU) 0)/\
  aa j 5 (pB 0)/\aa j 7 (pB 1)) ?_ λj h⟨q1,q2,q3,q4,q5,q6,q7⟩=>last q1 j h q2 q3 q4 q5 q6 q7
 refine ax (Q0:=λg h=>h=((H.e.w (ad (ah (D t)) 31)).w (ad z5 31))/\aa g 8 (J v)/\aa g 1 (J d)/\aa g 3 (ar (al c) 0)/\aa g 4 (ar (J bU) 0)/\
  aa g 5 (pB 0)/\aa g 7 (pB 1)) ?_ λj h⟨M,S,r,A,w,B,s⟩=>?_
 .simp[z,f143,r,t2,B,adQ,F];exact .mk ⟨rfl,by simp,by simp[r],by simp[A],by simp[w],by simp[B],by simp[s]⟩
 subst M
 refine ax (Q0:=λg h=>h=((H.e.w (ad (ah (D t)) 31)).w (ad z5 31))/\aa g 14 (zP (yF (0<=v)))/\aa g 8 (J v)/\aa g 1 (J d)/\aa g 3 (ar (al c) 0)/\aa g 4 (ar (J bU) 0)/\
  aa g 5 (pB 0)/\aa g 7 (pB 1)) ?_ λj h⟨M,t14,S,r,A,w,B,s⟩=>?_
 .simp[z,f143,S];exact .mk ⟨rfl,by simp,by simp[S],by simp[r],by simp[A],by simp[w],by simp[B],by simp[s]⟩
 subst M;rw[oR];simp only[qI,t14];by_cases o:0<=v
 .rw[show yF (0<=v)=Y by simp[o],rG,run_seq,eg,dJ];rw[if_pos o]at q;obtain⟨i,hi⟩:∃i:Nat,v=i:=⟨_,(wk o).symm⟩;have p:i<I c:=by have:=JM (bU:=bU) (n:=I c) (t:=t) (d:=d) (by rw[hv];exact o);omega
  have V:qN c[i] (aL (bU+d)) 0=R:=by rw[hi]at q;simpa[p]using q
  subst hi;have b87:=amQ;have e:bj Kw.toList 0 .Nl=TL:=rfl;rw[e];generalize TL=bs at*;have ix:=λ(h:H)=>nu (h:=h) (k:=zx) p;have f:=λn m=>f n m c[i] (aL (bU+d)) 0 (X _ (zW p));rw[V]at f;clear q V last;cases R with
  |ok u=>
   have f:∀n m,af Z C n (aj 144 [D c[i],J (aL (bU+d)),J 0] m)=.r (D u) m U:=f;simp[Kw,bq,z,f143,S,r,A,w,s,ix,f,ajD];exact bG.Pu (bg _) (by simp[s])
  |error Q=>
   have f:∀n m,af Z C n (aj 144 [D c[i],J (aL (bU+d)),J 0] m)=.p [⟨cL Q,G,G⟩] m U:=f;simp[Kw,bq,z,f143,S,r,A,w,ix,f,ol,b87];exact iX.pure (mO Q)
 .rw[show yF (0<=v)=G by simp only[decide_eq_false_iff_not];exact o,Aa,JU];rw[Gz];exact bB.mk ⟨o,rfl,r,A,w,B,s⟩
def F136:Z.f 136=O f136:=by kernel_rfl
def F137:Z.f 137=O f137:=by kernel_rfl
def ac8{x y:Operand}:fu Z h .neq 20 x y (O (.iface 240 (J e))) (O wo)=.v (zP Y) h:=by kernel_rfl
def HA{t:Tmp}:fu Z h .neq 20 (.tmp t) (.const wo) (O wo) (O wo)=.v (zP G) h:=by kernel_rfl
def apu:rJ Z h 240 Y (Z.u 240) (O (.iface 240 (J e)))=.v (aTu [J e,zP Y]) h:=by kernel_rfl
def Jb{x:Operand}{a:zQ}:Am.execOp Z r t h (.typeAssert x s a b)=.of (rJ Z h a b (Z.u a) (aA r x)):=rfl
def ZG:aJ Z prog 137 (λ_:Int=>True) (λe=>[cL e]) (λe=>J e):=by intro e _;refine ku (v:=J e) tok cg aW (.Cs (mO e) .Nl) bJ 1 F137 rfl rfl ?_;simp[cL,apu,Jb,an]
def av1:Am.zI Z 52=O 1:=by kernel_rfl
def qF{n:Int}{e:zQ}{g:Bool}(a:ae h k (K [N] e g)):zG Z h 52 (J n) (pB k)=O (h.p k (K [J n] e g)):=by rw[dY (v:=J n) (n:=1) (off:=0) av1 rfl rfl a (by show 1<=1;omega)];rfl
@[simp] theorem aCA{a:Array zQ}{args:List E}:qt Z h a t args .recover=.pT:=rfl
def abt(a:C 136=λ_ _=>U):af Z C (n+2) (.call (bK 136 [pB k,pB m]) [] h U)=.r (aTu []) h U:=by rw[oy _ (by rw[a]),dx (vs:=[]) (h2:=h) (ab:=U) F136 rfl rfl (by simp[f136,HA,an])];rfl
def Hb{d:Func}{args:List E}{b:H}{vs:List E}{i:Option (List zO)}{e:Ex}(l:Z.f f=O d)(p:d.body=O x){j:List ResultVar}(k:d.results.toList=j)(q:e=.Nr\/e=.ret)
 (a:aw Z (af Z C (n+1)) ⟨f,U⟩ x ⟨bF args 0 .Nl,[],h,o⟩=.c e ⟨r,[],b,i⟩)(o0:Am.zJ Z r j b=.ok vs b):cB Z (af Z C (n+1)) f args h o (Z.f f)=fw i (.ok vs b):=by
 rw[l,rC,p,rB,a];rcases q with rfl|rfl
 .rw[xv,oi,k,o0]
 .rw[zg,oi,k,o0]
def apv{x:Int}(b:Has C 137 (λ_:Int=>True) (λe=>[cL e]) (λe=>J e))(t:h.b=0)(j:ae h k (ad l 31))(o:I l=5)(p:ae h i (ad [J x] 52))(f:¬i=k):
 af Z C (n+2) (.call (bK 136 [pB k,pB i]) [] h (O [⟨cL e,G,G⟩]))=.r (aTu []) ((h.p k (ad z5 31)).p i (ad [J e] 52)) (O [⟨cL e,Y,G⟩]):=by
 have d:∀n m,af Z C n (aj 137 [.iface 240 (J e)] m)=.r (J e) m U:=λn m=>b.ev (T:=Z) n (x:=e) trivial m;have r:=λ(g:H)(q:ae g k (ad l 31))=>fp (c:=z5) rfl rfl q o;have s:=λ(g:H)(q:ae g i (ad [J x] 52))=>qF (n:=e) q
 have a:∃tm,aw Z (af Z C (n+1)) ⟨136,U⟩ (f136.body.getD we) ⟨bF [pB k,pB i] 0 .Nl,[],h,O [⟨cL e,G,G⟩]⟩=.c .Nr ⟨tm,[],(h.p k (ad z5 31)).p i (ad [J e] 52),O [⟨cL e,Y,G⟩]⟩:=by simp[f136,cL,ac8,an,d,jn,j,p,r,s,f]
 let⟨tm,a⟩:=a;rw[G2];show cB Z (af Z C (n+1)) 136 [pB k,pB i] h (O [⟨cL e,G,G⟩]) (Z.f 136)=_;rw[Hb (vs:=[]) F136 rfl rfl (.inl rfl) a (by simp[f136])];rfl
end Go.Proofs.YtpeialehpoilbaaGreat
namespace Go.Am.Eu
structure Loc(p:zA->Prop):Prop where
 kids:∀(t:zA)(ks:List zA),I ks=I t.M->p t->p (t.bare.rN ks)
 var:∀n,p (Ib n)
 bare:∀t:zA,t.w=0->p t->p t.bare
def aI.abu{p:zA->Prop}(h:Loc p)(b:a.w=0)(c:p a):aI p a.bare:=.mk (h.bare a b c) λx d=>by cases a;cases d
def aI.var{p:zA->Prop}(h:Loc p)(n:Int):aI p (Ib n):=.mk (h.var n) λx a=>by cases a
def SG{b:zA->Int->VO}{k:Int}:∀{a:List zA}{i:Nat}{d:Int}{r:List zA},fH b k i a d=.ok r->I r=I a
 |[],i,d,r,h=>by rw[Bh]at h;cases h;rfl
 |t::a,i,d,r,h=>by
  rw[CC]at h;cases f:dS b t (aL (d+eN k i))with
  |error e=>rw[f]at h;cases h
  |ok g=>
   rw[f]at h;cases c:fH b k (i+1) a d with
   |error e=>rw[c]at h;cases h
   |ok j=>
    rw[c]at h;cases h;simp[SG c]
def Sa{b:zA->Int->Except Int zA}(h:a.w=0):fg b a c=match b a c with|.ok u=>.done u|.error e=>.stop e:=by unfold fg;rw[if_pos h]<;>cases b a c<;>rfl
def SH{b:zA->Int->Except Int zA}(h:¬a.w=0):fg b a c=.go a.bare:=by unfold fg;rw[if_neg h]
def Ti{p:zA->Prop}(w:Loc p){ro:zA->Int->Except Int zA}(j:∀t d u,t.w=0->p t->ro t d=.ok u->aI p u):∀(N:Nat)(t:zA),zD t<N->aI p t->∀d u,dS (fg ro) t d=.ok u->aI p u:=by
 intro N;induction N with
 |zero=>intro t h;omega
 |succ N A=>
  intro t F k d u h;rw[Hx]at h;by_cases l:t.w=0
  .rw[Sa l]at h;cases m:ro t d with
   |error e=>rw[m]at h;cases h
   |ok v=>
    rw[m]at h;injection h with h;subst h;exact j t d v l k.here m
  .rw[SH l]at h
   have n:∀(g:List zA)(i:Nat)(r:List zA),(∀x∈g,zD x<N/\aI p x)->fH (fg ro) t.w i g d=.ok r->∀x∈r,aI p x:=by
    intro g;induction g with
    |nil=>intro i r _ h x b;rw[Bh]at h;injection h with h;subst h;cases b
    |cons y g o=>
     intro i r f h x b;rw[CC]at h;cases q:dS (fg ro) y (aL (d+eN t.w i))with
     |error e=>rw[q]at h;cases h
     |ok H=>
      rw[q]at h;cases c:fH (fg ro) t.w (i+1) g d with
      |error e=>rw[c]at h;cases h
      |ok B=>
       rw[c]at h;injection h with h;subst h;rcases zp.1 b with rfl|b
       .exact A y (f y (by simp)).1 (f y (by simp)).2 _ _ q
       .exact o (i+1) B (λa C=>f a (by simp[C])) c x b
   cases c:fH (fg ro) t.w 0 t.M d with
   |error e=>
    simp only[c]at h;cases h
   |ok r=>
    simp only[c]at h;injection h with h;subst h;refine .mk (w.kids t r (SG c) k.here) λx b=>?_;have b:x∈r:=by rw[GG]at b;exact b
    exact n t.M 0 r (λy s=>⟨by have:=mg s;omega,k.ld s⟩) c x b
def YM{p:zA->Prop}(b:Loc p)(h:oX c=.ok a):aI p a:=by
 unfold oX at h;split at h
 .cases h;exact .var b c
 .cases h
def air{p:zA->Prop}(g:Loc p)(i:aI p a)(h:qN a c e=.ok d):aI p d:=by
 refine Ti g (ro:=mq e c) (λa f d j k h=>?_) _ a (yL _) i 0 d h;unfold mq at h;split at h
 .cases h;exact .abu g j k
 .split at h
  .cases h
  .exact YM g h
def YN{p:zA->Prop}(f:Loc p)(i:∀v∈y,aI p v)(j:a.w=0)(k:p a)(h:iz y c a e=.ok d):aI p d:=by
 unfold iz at h;by_cases h1:0<=iy c (I y) a e
 .rw[if_pos h1]at h;have l:=JM h1;have:(iy c (I y) a e).toNat<I y:=by omega
  have m:y.getD (iy c (I y) a e).toNat zT=y[(iy c (I y) a e).toNat]:=by simp[this]
  rw[m]at h;exact air f (i _ (zW this)) h
 .rw[if_neg h1]at h;by_cases g:aL (a.Q-e)<c
  .rw[if_pos g]at h;cases h;exact .abu f j k
  .rw[if_neg g]at h;exact YM f h
def lO(sz b:zA->Int)(t:zA)(a:List zA):zA×Int:=
 match(iM (fk 0 (I a) (a.map sz)) t 0 0).2 with
 |.error e=>(zT,e)
 |.ok _=>match dS (fg (iz a 0)) t 0 with
  |.error e=>(zT,e)
  |.ok u=>if 200<b u then(zT,7)else(u,0)
def amR{p:zA->Prop}(b:Loc p){e f:zA->Int}(g:aI p a)(i:∀v∈y,aI p v):aI p (lO e f a y).1:=by
 have c:aI p zT:=.var b 0;unfold lO;split
 .exact c
 .split
  .exact c
  .rename_i u j;split
   .exact c
   .exact Ti b (ro:=iz y 0) (λa d u k l h=>YN b i k l h) _ a (yL _) g 0 u j
def QO:zD (a.rN y)=1+bA y:=by rw[GG,kU]
def YO:zD a.bare=1:=by cases a;rw[zA.bare,kU];rfl
def ZH:zD (Ib c)=1:=by rw[Ib,kU];rfl
def Sb(t:zA):1<=zD t:=by cases t;rw[kU];omega
def SI(t:zA):zD t=1+bA t.M:=by cases t;rw[kU];rfl
def afN:∀(N:Nat)(t:zA),zD t<N->∀d u,dS (fg (mq e c)) t d=.ok u->zD u<=zD t:=by
 intro N;induction N with
 |zero=>intro t h;omega
 |succ N q=>
  intro t B d u h;rw[Hx]at h;by_cases o:t.w=0
  .rw[Sa o]at h;have p:=Sb t;cases f:mq e c t d with
   |error a=>rw[f]at h;cases h
   |ok v=>
    rw[f]at h;cases h;unfold mq at f;split at f
    .cases f;rw[YO];exact p
    .split at f
     .cases f
     .unfold oX at f;split at f
      .cases f;rw[ZH];exact p
      .cases f
  .rw[SH o]at h
   have l:∀(g:List zA)(i:Nat)(r:List zA),(∀x∈g,zD x<N)->fH (fg (mq e c)) t.w i g d=.ok r->bA r<=bA g:=by
    intro g;induction g with
    |nil=>intro i r _ h;rw[Bh]at h;cases h;exact zR _
    |cons y g m=>
     intro i r k h;rw[CC]at h;cases n:dS (fg (mq e c)) y (aL (d+eN t.w i))with
     |error a=>rw[n]at h;cases h
     |ok C=>
      rw[n]at h;cases j:fH (fg (mq e c)) t.w (i+1) g d with
      |error a=>rw[j]at h;cases h
      |ok s=>
       rw[j]at h;cases h;have F:=q y (k y (by simp)) _ _ n;have H:=m (i+1) s (λb w=>k b (by simp[w])) j;rw[hG,hG];omega
   cases j:fH (fg (mq e c)) t.w 0 t.M d with
   |error a=>simp only[j]at h;cases h
   |ok r=>
    simp only[j]at h;cases h;rw[QO,SI t];have:=l t.M 0 r (λy A=>by have:=mg A;omega) j;omega
def agz(h:qN d c e=.ok a):zD a<=zD d:=afN _ d (yL _) 0 a h
def Ag{x:Int}(a:0<=x)(b:x<4611686018427387904):aL x=x:=by unfold aL;simp[IntKind.wrap,IntKind.bits,IntKind.signed];omega
def ake(T:∀v∈y,zD v<1099511627776):∀(N:Nat)(t:zA),zD t<N->∀(d c k:Int)(a u:zA),0<=c->c<=4096->iM (fk 0 (I y) (y.map λt=>(zD t:Int))) t d c=(k,.ok a)->dS (fg (iz y 0)) t d=.ok u->c+zD u<=k/\k<=4096:=by
 intro N;induction N with
 |zero=>intro t h;omega
 |succ N V=>
  intro t hN d c k a u W X f h;rw[Hx]at h;rw[acj]at f;generalize n:fk 0 (I y) (y.map λt=>(zD t:Int)) t d=s at f
  have hsr:1<=s/\s<1099511627777:=by
   unfold fk at n;split at n
   .rename_i q;have C:=JM q.2;have g:(iy 0 (I y) t d).toNat<I y:=by omega
    rw[<-n];simp[g];have:=T _ (zW g);have:=Sb y[(iy 0 (I y) t d).toNat];omega
   .omega
  have hw:aL (c+s)=c+s:=Ag (by omega) (by omega);rw[hw]at f;split at f
  .injection f with _ f;cases f
  rename_i hle;by_cases w:t.w=0
  .rw[if_pos w]at f;cases f;rw[Sa w]at h;cases j:iz y 0 t d with
   |error e=>rw[j]at h;cases h
   |ok v=>
    rw[j]at h;cases h;refine⟨?_,by omega⟩;unfold iz at j;by_cases l:0<=iy 0 (I y) t d
    .rw[if_pos l]at j;have C:=JM l;have g:(iy 0 (I y) t d).toNat<I y:=by omega
     have hm:y.getD (iy 0 (I y) t d).toNat zT=y[(iy 0 (I y) t d).toNat]:=by simp[g]
     rw[hm]at j;have:=agz j;unfold fk at n;rw[if_pos ⟨w,l⟩]at n;simp[g]at n;omega
    .rw[if_neg l]at j;split at j
     .cases j;rw[YO];omega
     .unfold oX at j;split at j
      .cases j;rw[ZH];omega
      .cases j
  .rw[if_neg w]at f;rw[SH w]at h;have F:s=1:=by rw[<-n];unfold fk;rw[if_neg λq=>w q.1]
   subst F
   have H:∀(m:List zA)(i:Nat)(c k:Int)(a r:List zA),(∀x∈m,zD x<N)->0<=c->c<=4096->lM (fk 0 (I y) (y.map λt=>(zD t:Int))) t.w i m d c=(k,.ok a)->fH (fg (iz y 0)) t.w i m d=.ok r->c+bA r<=k/\k<=4096:=by
    intro m;induction m with
    |nil=>
     intro i c k a r _ R l f h;rw[Bh]at h;cases h;rw[SF]at f;cases f;simp[bA];exact l
    |cons b m L=>
     intro i c k a r A R l f h;rw[CC]at h;rw[R9]at f;cases S:iM (fk 0 (I y) (y.map λt=>(zD t:Int))) b (aL (d+eN t.w i)) c with
     |mk c2 M=>
      rw[S]at f;cases M with
      |error e=>simp only at f;injection f with _ f;cases f
      |ok zy=>
       simp only at f;cases o:dS (fg (iz y 0)) b (aL (d+eN t.w i))with
       |error e=>rw[o]at h;cases h
       |ok y'=>
        rw[o]at h;let⟨k1,P⟩:=V b (A b (by simp)) _ _ _ _ _ R l S o;cases B:lM (fk 0 (I y) (y.map λt=>(zD t:Int))) t.w (i+1) m d c2 with
        |mk c3 Q=>
         rw[B]at f;cases Q with
         |error e=>simp only at f;injection f with _ f;cases f
         |ok zs=>
          simp only at f;injection f with e3 _;cases p:fH (fg (iz y 0)) t.w (i+1) m d with
          |error e=>rw[p]at h;cases h
          |ok r'=>
           rw[p]at h;cases h;let⟨k3,k4⟩:=L (i+1) _ _ _ _ (λa hz=>A a (by simp[hz])) (by omega) P B p;rw[hG];subst e3;exact⟨by omega,k4⟩
   cases p:fH (fg (iz y 0)) t.w 0 t.M d with
   |error e=>simp only[p]at h;cases h
   |ok r=>
    simp only[p]at h;cases h;cases B:lM (fk 0 (I y) (y.map λt=>(zD t:Int))) t.w 0 t.M d (c+1)with
    |mk c3 M=>
     rw[B]at f;cases M with
     |error e=>simp only at f;injection f with _ f;cases f
     |ok zs=>
      simp only at f;cases f;let⟨k1,P⟩:=H t.M 0 _ _ _ _ (λb hy=>by have:=mg hy;omega) (by omega) (by omega) B p;rw[QO];exact⟨by omega,P⟩
def ais{d:zA->Int}(f:∀v∈y,zD v<1099511627776):zD (lO (λa=>(zD a:Int)) d a y).1<=4096:=by
 have c:zD zT<=4096:=by rw[kU];simp[bA]
 unfold lO;cases g:(iM (fk 0 (I y) (y.map λa=>(zD a:Int))) a 0 0)with
 |mk h r=>
  cases r with
  |error e=>exact c
  |ok b=>
   cases i:dS (fg (iz y 0)) a 0 with
   |error e=>simp only[];exact c
   |ok u=>
    simp only[];split
    .exact c
    .have:=ake f _ a (yL _) 0 0 h b u (by omega) (by omega) g i;show zD u<=4096;omega
def iu.loc:Loc iu:=⟨λt c h⟨b,a⟩=>by
 cases t;exact⟨by rw[GG];show I c<=3;rw[h];exact b,a⟩,λn=>⟨by show 0<=3;omega,by show 0<1000000;omega,λx d=>by cases d⟩,λt _⟨b,a⟩=>by
 cases t;exact⟨by show 0<=3;omega,a⟩⟩
end Go.Am.Eu
namespace Go.Proofs.YtpeialehpoilbaaGreat
def nC(k:Int):Int:=if 0<=k/\k<13 then(aLg k.toNat).2.2.2.2 else-1
mutual
def lg:zA->Int->List (Int×zA)
 |.mk k i n ls ks,d=>(d,.mk k i n ls ks)::oc k 0 ks d
def oc(k:Int)(i:Nat):List zA->Int->List (Int×zA)
 |[],_=>[]
 |t::r,d=>lg t (if(i:Int)=nC k then aL (d+1)else d)++oc k (i+1) r d
end
def Oj{t:zA}{d:Int}:lg t d=(d,t)::oc t.w 0 t.M d:=by cases t;rw[lg];rfl
def apw{k:Int}{d:Int}:oc k i [] d=[]:=by rw[oc]
def aaz{k:Int}{t:zA}{d:Int}:oc k i (t::y) d=lg t (if(i:Int)=nC k then aL (d+1)else d)++oc k (i+1) y d:=by rw[oc]
def lP(t:zA):Prop:=I t.M<1000000
def F173:Z.f 173=O f173:=by kernel_rfl
def F175:Z.f 175=O f175:=by kernel_rfl
def F155:Z.f 155=O f155:=by kernel_rfl
@[simp] theorem aFh:zE Z 246 [v] 0=O v:=by rw[dK (show Am.zK Z 246=O G by kernel_rfl)];rfl
@[simp] theorem aFi:zE Z 251 [v] 0=O v:=by rw[dK (show Am.zK Z 251=O G by kernel_rfl)];rfl
def akf(h:H)(b:Nat){k:Int}(h0:0<=k)(a:k<13):dI Z h (Z.u 249) (O (pB b)) (O (J k))=.v (zM (O ⟨b,k.toNat*5,U⟩)) h:=by rcases YH h0 a with rfl|rfl|rfl|rfl|rfl|rfl|rfl|rfl|rfl|rfl|rfl|rfl|rfl<;>kernel_rfl
def agA{k:Int}(h0:0<=k)(a:k<13):zE Z 3 KP (k.toNat*5+4)=O (J (nC k)):=by rw[p3];unfold nC;rw[if_pos ⟨h0,a⟩];rcases YH h0 a with rfl|rfl|rfl|rfl|rfl|rfl|rfl|rfl|rfl|rfl|rfl|rfl|rfl<;>rfl
@[simp] theorem aFj{h:H}{b :Nat}:aX Z h 248 4 (O (zM (O ⟨b,n,U⟩)))=.v (zM (O ⟨b,n+4,U⟩)) h:=by kernel_rfl
abbrev Wf(b:Nat):E:=zU (za 175) ⟨[]⟩ ⟨[pB b,pB (b+1),pB (b+1+1)]⟩
abbrev EY(x:Int×zA):List E:=[J x.1,D x.2]
def Kp(N:Nat)(h a:H):Prop:=a.b=0/\h.n<=a.n/\∀j,N<=j->j<h.n->a.g j=h.g j
def Kp.trans{N:Nat}{a b c:H}(x:Kp N a b)(y:Kp N b c):Kp N a c:=⟨y.1,Nat.le_trans x.2.1 y.2.1,λj d e=>by rw[y.2.2 j d (by have:=x.2.1;omega),x.2.2 j d e]⟩
def Kp.refl{N:Nat}{h:H}(hb:h.b=0):Kp N h h:=⟨hb,zR _,λ_ _ _=>rfl⟩
structure IH(yv:E)(b N:Nat)(h:H):Prop where
 base:h.b=0
 lt:b+3<=h.n
 ge:N<=b
 yl:h.g b=O (K [yv] 246 G)
 ks:h.g (b+1)=O (K KP 249 G)
 vs:h.g (b+1+1)=O (K [Wf b] 251 G)
def IH.mono{yv:E}{b N:Nat}{h h':H}(a:IH yv b N h)(k:Kp N h h'):IH yv b N h':=by obtain⟨g,i,c,d,e,f⟩:=a;exact⟨k.1,by have:=k.2.1;omega,c,by rw[k.2.2 b c (by omega)];exact d,by rw[k.2.2 (b+1) (by omega) (by omega)];exact e,by rw[k.2.2 (b+1+1) (by omega) (by omega)];exact f⟩
def BA:yG:=z f175 [Y,Y,Y,Y,G,Y,G,G]
def ait:f175.body=O (zS (z f175 pF0) (zS (z f175 pF1) (zS (z f175 pF2) (zS (z f175 pF3) (zS (zS (z f175 [Y,Y,Y,Y,G,G]) (zv 0 (yb BA))) (z f175 pT5)))))):=rfl
structure BP(t:zA)(d:Int)(b T:Nat)(tm:Tr E)(h:H):Prop where
 t1:tm.g 1=O (J d)
 t2:tm.g 2=O (zM (O ⟨b,0,U⟩))
 t3:tm.g 3=O (zM (O ⟨b+1,0,U⟩))
 t4:tm.g 4=O (zM (O ⟨b+1+1,0,U⟩))
 t5:tm.g 5=O (zM (O ⟨T,0,U⟩))
 cell:h.g T=O (K (ah (D t)) 31 G)
structure Ic(t:zA)(d:Int)(b i:Nat)(tm:Tr E):Prop where
 t1:aa tm 1 (J d)
 t4:aa tm 4 (pB (b+1+1))
 t8:aa tm 8 (J (nC t.w))
 t31:aa tm 31 (al t.M)
 t32:aa tm 32 (J (I t.M:Nat))
 t33:aa tm 33 (J (i:Nat))
section
variable{C:aV}{yv:E}{L:List (Int×zA)}{N c:Nat}{W:Nat->H->Prop}{Zz:H->Prop}{b k:Nat}{t:zA}{d:Int}{tm:Tr E}{h:H}
structure WM(yv:E)(N:Nat)(W:Nat->H->Prop)(b k:Nat)(h0 h:H):Prop where
 w:W k h
 e:IH yv b N h
 kp:Kp N h0 h
def WM.new{h0:H}(a:Iter Z C yv EY L N c W Zz)(m:WM yv N W b k h0 h)(o:ai):WM yv N W b k h0 (h.w o):=by
 have e:=m.e.base;have g:=a.ge k h m.w
 have d:Kp N h (h.w o):=⟨by simp[e],by simp,λj _ f=>by
  have:¬j=h.n:=by omega
  simp[this]⟩
 exact⟨a.AO k h _ m.w d.1 d.2.1 (λj f=>by
  have:¬j=h.n:=by omega
  simp[this]),m.e.mono d,m.kp.trans d⟩
def WM.put{h0:H}(a:Iter Z C yv EY L N c W Zz)(m:WM yv N W b k h0 h){B:Nat}(p:h0.n<=B)(e:b+3<=B)(q:N<=B)(o:ai):WM yv N W b k h0 (h.p B o):=by
 have d:=m.e.base;let⟨d,lt,ge,yl,ks,vs⟩:=m.e;have f:¬b=B:=by omega
 have g:¬b+1=B:=by omega
 have i:¬b+1+1=B:=by omega
 exact⟨a.AO k h _ m.w (by simp[d]) (by simp) (λj r=>by
  have:¬j=B:=by omega
  simp[this]),⟨by simp[d],by simpa using lt,ge,by simp[f,yl],by simp[g,ks],by simp[i,vs]⟩,⟨by simp[d],by simp;exact m.kp.2.1,λj l n=>by
  have:¬j=B:=by omega
  simp[this];exact m.kp.2.2 j l n⟩⟩
end
def EZ(t:zA):Nat:=3*zD t+4
def Ux(C:aV)(yv:E)(N:Nat)(W:Nat->H->Prop)(Zz:H->Prop)(b k:Nat)(x:zA)(d:Int)(ev:zC->ag):Prop:=
 ∀h,W k h->IH yv b N h->∃ok a,ev (.call (Wf b) [D x,J d] h U)=.r (zP ok) a U/\Kp N h a/\(ok=Y->W (k+I (lg x d)) a)/\(ok=G->Zz a)
section
variable{C:aV}{yv:E}{L:List (Int×zA)}{N c:Nat}{W:Nat->H->Prop}{Zz:H->Prop}{b k:Nat}{t:zA}{d:Int}{tm:Tr E}{h h0:H}{ev:zC->ag}{T:Nat}
def apx(m:WM yv N W b k h0 h)(s:BP t d b T tm h)(u:N<=T)(g:T<h.n)(i:∃e a,ev (.call yv [J d,D t] h U)=.r (zP e) a U/\Kp N h a/\(e=Y->W (k+1) a)/\(e=G->Zz a)):
 aD (λc a=>WM yv N W b (k+1) h0 a/\BP t d b T c a) (λc a=>c.g 7=O (zP G)/\Zz a/\Kp N h0 a) (λ_ _ _=>False) (aw Z ev ⟨175,U⟩ (z f175 pF1) ⟨tm,[],h,U⟩):=by
 obtain⟨j,l,v,w,n,o⟩:=s;obtain⟨e,a,p,f,x,y⟩:=i;have q:=m.e.base;have r:=m.e.yl;cases e with
 |true=>
  simp[z,ak,sub,f175,j,l,n,o,q,r,p];exact⟨⟨x rfl,m.e.mono f,m.kp.trans f⟩,by simp[j],by simp[l],by simp[v],by simp[w],by simp[n],by rw[f.2.2 T u g];exact o⟩
 |false=>
  simp[z,ak,sub,f175,j,l,n,o,q,r,p];exact⟨y rfl,m.kp.trans f⟩
def apy(e:BP t d b T tm h):aD (λa c=>c=h/\BP t d b T a c/\aa a 8 (J (-1))) ap bE (aF Z ev 175 (z f175 pF2) tm h):=by let⟨t1,t2,t3,t4,t5,f⟩:=e;simp[z,f175];exact⟨by simp[t1],by simp[t2],by simp[t3],by simp[t4],by simp[t5],f⟩
def apz(m:WM yv N W b k h0 h)(j:BP t d b T tm h)(g:aa tm 8 (J (-1))):aD (λc i=>i=h/\BP t d b T c i/\aa c 8 (J (nC t.w))) ap bE (aF Z ev 175 (z f175 pF3) tm h):=by
 let⟨t1,t2,t3,t4,t5,a⟩:=j;have f:=m.e.base;have l:=m.e.ks;by_cases h0:0<=t.w
 .by_cases h1:t.w<13
  .have n:=agA h0 h1;have o:=akf h (b+1) h0 h1;simp[z,f175,t5,a,f,h0,h1,t3,n,o,l];exact⟨by simp[t1],by simp[t2],by simp[t3],by simp[t4],by simp[t5],a⟩
  .have e:nC t.w= -1:=by unfold nC;rw[if_neg (by omega)]
   simp[z,f175,t5,a,f,h0,h1,g,e];exact⟨by simp[t1],by simp[t2],by simp[t3],by simp[t4],by simp[t5],a⟩
 .have e:nC t.w= -1:=by unfold nC;rw[if_neg (by omega)]
  simp[z,f175,t5,a,f,h0,g,e];exact⟨by simp[t1],by simp[t2],by simp[t3],by simp[t4],by simp[t5],a⟩
def apA(c:h.b=0)(e:BP t d b T tm h)(f:aa tm 8 (J (nC t.w))):aD (λa g=>g=h/\Ic t d b 0 a) ap bE (aF Z ev 175 (z f175 [Y,Y,Y,Y,G,G]) tm h):=by let⟨t1,t2,t3,t4,t5,i⟩:=e;simp[z,f175,t5,i,c];exact⟨by simp[t1],by simp[t4],by simp[f],by simp,by simp,by simp⟩
def akg(e:Iter Z C yv EY L N c W Zz)(m:WM yv N W b k h0 h)(x:Ic t d b i tm)(p:i<I t.M)(r:i+1<=ao)(A:h0.n<=h.n)(f:Ux C yv N W Zz b k t.M[i] (if(i:Int)=nC t.w then aL (d+1)else d) ev):
 aD (λg l=>WM yv N W b (k+I (lg t.M[i] (if(i:Int)=nC t.w then aL (d+1)else d))) h0 l/\Ic t d b (i+1) g) (λg l=>g.g 7=O (zP G)/\Zz l/\Kp N h0 l) bE
  (aF Z ev 175 BA tm h):=by
 let⟨t1,t4,t8,t31,t32,t33⟩:=x;have s:=dA r;simp at s;have q:=m.e.base;have y:=m.e.lt;have u:=e.ge k h m.w;have a:=(m.new e (ad z5 31)).put e (B:=h.n) (by omega) (by omega) u (ad (ah (D t.M[i])) 31);have n:=a.e.vs;by_cases c1:(i:Int)=nC t.w
 .rw[if_pos c1]at f⊢;let⟨ok,l,j,kp,v,w⟩:=f _ a.w a.e;simp at j n;have o:=c1.symm;cases ok with
  |true=>
   simp[BA,z,f175,t1,t4,t8,t31,t32,t33,p,s,q,o,j,n];exact⟨⟨v rfl,a.e.mono kp,a.kp.trans kp⟩,by simp[t1],by simp[t4],by simp[t8,o],by simp[t31],by simp[t32],by simp⟩
  |false=>
   simp[BA,z,f175,t1,t4,t8,t31,t32,t33,p,q,o,j,n];exact⟨w rfl,a.kp.trans kp⟩
 .rw[if_neg c1]at f⊢;let⟨ok,l,j,kp,v,w⟩:=f _ a.w a.e;simp at j n;have o:=c1;cases ok with
  |true=>
   simp[BA,z,f175,t1,t4,t8,t31,t32,t33,p,s,q,o,j,n];exact⟨⟨v rfl,a.e.mono kp,a.kp.trans kp⟩,by simp[t1],by simp[t4],by simp[t8],by simp[t31],by simp[t32],by simp⟩
  |false=>
   simp[BA,z,f175,t1,t4,t8,t31,t32,t33,p,q,o,j,n];exact⟨w rfl,a.kp.trans kp⟩
def amS(c:Ic t d b i tm)(f:I t.M<=i):aD ap ap (λj _ e=>j=0/\e=h) (aF Z ev 175 BA tm h):=by
 let⟨t1,t4,t8,t31,t32,t33⟩:=c;have a:¬i<I t.M:=by omega
 simp[BA,z,f175,t32,t33,a]
end
def arV{kd:Int}{d:Int}(a:i<I y):oc kd i (y.drop i) d=lg y[i] (if(i:Int)=nC kd then aL (d+1)else d)++oc kd (i+1) (y.drop (i+1)) d:=by rw[yK a,aaz]
def Tj:I (lg a c)=1+I (oc a.w 0 a.M c):=by rw[Oj];simp;omega
def apB{L:List (Int×zA)}{N :Nat}{W:Nat->H->Prop}{f:H->Prop}(g:Iter Z C v EY L N m W f)(hC:C 175=λ_ _=>U):
 ∀(M:Nat)(t:zA),zD t<=M->aI lP t->∀(k:Nat)(d:Int)(a:Nat),(∀j,j<I (lg t d)->L[k+j]?=(lg t d)[j]?)->m+EZ t<=a->Ux C v N W f n k t d (af Z C a):=by
 intro M;induction M with
 |zero=>intro t h;have:=jx t;omega
 |succ M ih=>
  intro t hM hf k d a hL hn h w o;unfold EZ at hn;have BH:=jx t;obtain⟨a,rfl⟩:∃n',a=n'+1:=⟨a-1,by omega⟩;have aH6:zD t=1+bA t.M:=by cases t;rw[kU];rfl
  have hlen:=length_le t.M;have hfk:I t.M<1000000:=hf.here;have V2:=g.ge k h w;rw[oy _ (by rw[hC])];have m0:WM v N W n k h h:=⟨w,o,.refl o.base⟩
  have T:aD ap (λu p=>∃P,aa u 7 (zP P)/\Kp N h p/\(P=Y->W (k+I (lg t d)) p)/\(P=G->f p)) bE
   (aF Z (af Z C a) 175 (zS (z f175 pF0) (zS (z f175 pF1) (zS (z f175 pF2) (zS (z f175 pF3) (zS (zS (z f175 [Y,Y,Y,Y,G,G]) (zv 0 (yb BA))) (z f175 pT5)))))) (bF [D t,J d,pB n,pB (n+1),pB (n+1+1)] 0 .Nl) h):=by
   refine aS (N':=λA F=>WM v N W n k h F/\BP t d n h.n A F/\h.n<F.n) ?_ λA F⟨m1,V,y⟩=>?_
   .have m1:=m0.new g (ad (ah (D t)) 31);simp[z,f175];exact⟨m1,by simp,by simp,by simp,by simp,by simp,by simp⟩
   refine aS (N':=λA F=>WM v N W n (k+1) h F/\BP t d n h.n A F) ((apx m1 V V2 y ?_).Mo bT (λA h2 q=>⟨G,q.1,q.2.2,(λe=>by cases e),λ_=>q.2.1⟩) jr) λA h2⟨m2,V⟩=>?_
   .have hk:L[k]?=O (d,t):=by have:=hL 0 (by rw[Tj];omega);simpa[Oj]using this
    let⟨Wg,hke⟩:=yf.1 hk;let⟨P,p,e,q1,q2,q3,q4,q5⟩:=g.step k Wg F a m1.w (by omega);rw[hke]at e;exact⟨P,p,e,⟨q1,q2,q3⟩,q4,q5⟩
   refine aS ((apy V).Mo bT aP cS) λA h3⟨e3,DF,t83⟩=>?_;rw[e3]at DF⊢;have p3:=apz (ev:=af Z C a) m2 DF t83;refine aS (p3.Mo bT aP cS) λA h4⟨e4,Gb,t84⟩=>?_;rw[e4]at Gb⊢;refine aS (N':=λ_ p=>W (k+I (lg t d)) p/\Kp N h p) (aS ((apA m2.e.base Gb t84).Mo bT aP cS) λA h5⟨e5,Wh⟩=>?_) λA h5⟨w5,k5⟩=>?_
   .rw[e5]
    refine fU (m+3*zD t+3-I t.M) (λj A p=>∃i Q,j=I t.M-i/\i<=I t.M/\WM v N W n Q h p/\Ic t d n i A/\Q+I (oc t.w i (t.M.drop i) d)=k+I (lg t d)/\
     ∀j,j<I (oc t.w i (t.M.drop i) d)->L[Q+j]?=(oc t.w i (t.M.drop i) d)[j]?) (I t.M) ⟨0,k+1,by omega,by omega,m2,Wh,by rw[Tj,yY];omega,λj hj=>?_⟩ (by omega) ?_
    .have:=hL (1+j) (by rw[Tj];rw[yY]at hj;omega);rw[<-Nat.add_assoc]at this;rw[this,Oj,yY,Nat.add_comm 1 j,List.getElem?_cons_succ]
    rintro j A h4 m' ⟨i,Q,rfl,hi,m4,V,s,Wi⟩ VN;by_cases y:i<I t.M
    .have S:t.M[i]∈t.M:=zW y;have B:=arV (kd:=t.w) (d:=d) y;generalize PV:(if(i:Int)=nC t.w then aL (d+1)else d)=d' at B
     have av2:∀e,e=d'->Ux C v N W f n Q t.M[i] e (af Z C m'):=λe he=>by
      subst he;have aIv:=mg S;have:=length_le t.M
      have hnr:zD t.M[i]+(I t.M-1)<=bA t.M:=by
       have T:∀(l:List zA)(i:Nat)(hi:i<I l),zD l[i]+(I l-1)<=bA l:=by
        intro l;induction l with
        |nil=>intro i hi;simp at hi
        |cons x r ihl=>
         intro i hi;cases i with
         |zero=>have:=length_le r;rw[hG];simp;exact this
         |succ i=>
          have F:=jx x;have h2:i<I r:=by simpa using hi
          have:=ihl i h2;rw[hG];simp;omega
       exact T t.M i y
      refine ih t.M[i] (by omega) (hf.ld S) Q e m' (λj hj=>?_) (by unfold EZ;omega);have:=Wi j (by rw[B];simp;omega);rw[this,B,List.getElem?_append_left hj]
     refine aD.Mo (N:=λu p=>WM v N W n (Q+I (lg t.M[i] d')) h p/\Ic t d n (i+1) u) (R:=λu p=>u.g 7=O (zP G)/\f p/\Kp N h p) (X:=λ_ _ _=>False) ?_ (λu p q=>?_) (λu p q=>⟨G,q.1,q.2.2,(λe=>by cases e),λ_=>q.2.1⟩) jr
     .have q:=akg (ev:=af Z C m') g m4 V y (by unfold ao;omega) (by have:=m4.kp.2.1;omega) (i:=i) (by rw[PV];exact av2 d' rfl);rw[PV]at q;exact q
     .refine⟨_,?_,i+1,Q+I (lg t.M[i] d'),rfl,y,q.1,q.2,?_,λj hj=>?_⟩
      .omega
      .rw[B]at s;simp at s;omega
      .have:=Wi (I (lg t.M[i] d')+j) (by rw[B];simp;exact hj);rw[Nat.add_assoc,this,B,List.getElem?_append_right (by omega)];congr 1;omega
    .refine(amS V (by omega)).Mo aP aP (λ_ _ _ q=>⟨q.1,?_⟩);rw[q.2];rw[yN (by omega),apw]at s;simp at s;rw[<-s];exact⟨m4.w,m4.kp⟩
   .simp[z,f175];exact⟨k5,w5⟩
  rcases T.cases with⟨_,_,_,q⟩|⟨A,p,e,P,t7,q1,q2,q3⟩|⟨_,_,_,_,q⟩
  .cases q
  .refine⟨P,p,?_,q1,q2,q3⟩;obtain⟨a,rfl⟩:∃n',a=n'+1:=⟨a-1,by omega⟩
   rw[dx (vs:=[zP P]) (h2:=p) (ab:=U) F175 ait rfl (by show AL Z _ _ _ _ (aF Z (af Z C (a+1)) 175 _ (bF [D t,J d,pB n,pB (n+1),pB (n+1+1)] 0 .Nl) h);rw[e];simp[f175,t7])]
   rfl
  .cases q
def II(t:zA):E:=zU (za 173) ⟨[]⟩ ⟨[ar (D t) 0]⟩
def amT:aJ Z prog 155 (λ_:zA=>True) (λt=>[D t]) II:=by
 intro t _ h
 have a:cB Z (af Z cg 1) 155 [D t] H.e U (Z.f 155)=.r (zU (za 173) ⟨[]⟩ ⟨[pB 0]⟩) (H.e.w (ad (ah (D t)) 31)) U:=by rw[dx (vs:=[zU (za 173) ⟨[]⟩ ⟨[pB 0]⟩]) (h2:=H.e.w (ad (ah (D t)) 31)) (ab:=U) F155 rfl rfl (by simp[f155])];rfl
 exact CK tok cg aW (.Cs (bg t) .Nl) 1 a (.func 173 .Nl (.Cs (.box (x:=D t) (e:=31) (gr:=G) (c:=ah (D t)) (by simp) rfl (.Pu (bg t))) .Nl)) h
def atY:Am.zI Z 251=O 1:=by kernel_rfl
def atZ{f:Fn}{p q:Array E}{g:Bool}(a:ae h k (K [N] t g)):zG Z h 251 (zU f p q) (pB k)=O (h.p k (K [zU f p q] t g)):=by rw[dY (v:=zU f p q) (n:=1) (off:=0) atY rfl rfl a (by show 1<=1;omega)];rfl
def at0:Am.zI Z 249=O 65:=by kernel_rfl
def O2:List E:=(eX 20++(eX 20++(eX 20++(eX 20++(eX 20++(eX 20++(eX 20++(eX 20++(eX 20++(eX 20++(eX 20++(eX 20++eX 20))))))))))))
@[simp] theorem aIX:zero Z 249=O (aAg O2):=by kernel_rfl
@[simp] theorem aIY:zero Z 251=O zj:=by kernel_rfl
def at1{g:Bool}(a:ae h k (K O2 t g)):zG Z h 249 EV (pB k)=O (h.p k (K KP t g)):=by rw[dY (v:=EV) (n:=65) (off:=0) at0 rfl rfl a (by show 65<=65;omega)];rfl
@[simp] theorem aA0:ah zj=[zj]:=rfl
def at2(y:C 175=λ_ _=>U)(m:C 173=λ_ _=>U)(i:∀n h,af Z C n (aj 174 [] h)=.r EV h U)(A:aI lP a):acY Z C (II a) EY (lg a 0) (EZ a+2):=by
 intro u N c W g b h n w hn;obtain⟨n,rfl⟩:∃B,n=B+2:=⟨n-2,by omega⟩;have v:=b.base 0 h w;have o:=b.ge 0 h w;unfold II;rw[oy _ (by rw[m])];let k:E:=zU (.yield u) #[] #[];generalize r:(((((h.w (ad [k] 246)).w (ad O2 249)).p (h.n+1) (ad KP 249)).w (ad [zj] 251)).p (h.n+1+1) (ad [Wf h.n] 251))=l
 have d:IH k h.n N l:=by
  subst r;have n0:¬h.n=h.n+1:=by omega
  have F:¬h.n=h.n+1+1:=by omega
  have L:¬h.n+1=h.n+1+1:=by omega
  exact⟨by simp[v],by simp,o,by simp[F],by simp,by simp⟩
 have M:W 0 l:=b.AO 0 h l w d.base (by have:=d.lt;omega) λj P=>by
  subst r;have Q:¬j=h.n:=by omega
  have R:¬j=h.n+1:=by omega
  have S:¬j=h.n+1+1:=by omega
  simp[Q,R,S]
 let⟨ok,x,e,kp,T,V⟩:=apB b y (zD a) a (zR _) A 0 0 (n+1) (λj P=>by rw[xF]) (by omega) l M d;refine⟨x,aTu [],?_,?_⟩
 .have X:=λ(s:H)(q:ae s (h.n+1) (ad O2 249))=>at1 q;have s2:=λ(s:H)(q:ae s (h.n+1+1) (ad [zj] 251))=>atZ (f:=za 175) (p:=⟨[]⟩) (q:=⟨[pB h.n,pB (h.n+1),pB (h.n+1+1)]⟩) q;have L:¬h.n+1=h.n+1+1:=by omega
  rw[show[zU (.yield u) #[] #[]]++[ar (D a) 0]=[k,ar (D a) 0] from rfl,dx (vs:=[]) (h2:=x) (ab:=U) F173 rfl rfl (by have cy:ah k=[k]:=rfl;simp[f173,i,v,X,s2,cy];rw[r];simp[e])]
  rfl
 .cases ok with
  |true=>exact .inl (by have:=T rfl;rwa[xF]at this)
  |false=>exact .inr (V rfl)
@[simp] theorem z3z:zero Z 3=O (J 0):=by kernel_rfl
def F119:Z.f 119=O f119:=by kernel_rfl
def Kx:yG:=z f119 [Y,Y,G,Y,G]
def HM:yG:=nZ Kx
def apC:Kx=.rangeFunc (.tmp 5) #[6,7] we HM:=rfl
def apD:(ck f119.ntmps we&&ck f119.ntmps HM)=Y:=by kernel_rfl
def aiu:f119.body=O (zS (z f119 pF0) (zS (z f119 pF1) (zS (zS (z f119 [Y,Y,G,G]) (zv 0 Kx)) (z f119 pT3)))):=rfl
def KS(a:Tr E):kz:={state:=.ready,pending:=U,fn:=119,tmps:=a,params:= #[6,7],assign:=we,body:=HM,defers:=2}
structure SW(gp:Tr E)(k:Nat)(h:H):Prop where
 base:h.b=0
 next:4<=h.n
 c:h.g 1=O (K [J (k:Nat)] 3 G)
 d:h.g 2=O (.Df (O []))
 lp:h.g 3=O (.Lo (KS gp))
def akh{ev:zC->ag}{tm:Tr E}{x:Nat}(c:x+1<=ao)(d:h.b=0)(e:ae h 1 (ad [J x] 3))(f:aa tm 3 (pB 1)):
 ∃a,aw Z ev ⟨119,O 3⟩ HM ⟨tm,[],h,U⟩=.c .Nr ⟨a,[],h.p 1 (ad [J (x+1:Nat)] 3),U⟩:=by
 have b:=dA c;simp at b;have s:=λ(g:H)(q:ae g 1 (ad [J x] 3))=>J6 (n:=(x:Int)+1) q;simp[HM,nZ,Kx,z,f119,f,d,e,s,b]
def apE{C:aV}{l:List (Int×zA)}{gp:Tr E}(hl:I l<ao)(t3:gp.g 3=O (zM (O ⟨1,0,U⟩))):Iter Z C (zU (.yield 3) #[] #[]) EY l 4 1 (λk h=>SW gp k h) (λ_=>False) where
 base:=λ_ _ w=>w.base
 ge:=λ_ _ w=>w.next
 AO:=λk h h' w hb hn hk=>⟨hb,Nat.le_trans w.next hn,by rw[hk 1 (by omega)];exact w.c,by rw[hk 2 (by omega)];exact w.d,by rw[hk 3 (by omega)];exact w.lp⟩
 step:=by
  intro k hk h n w hn;obtain⟨n,rfl⟩:∃m,n=m+1:=⟨n-1,by omega⟩;obtain⟨hb,hnx,hc,hd,DB⟩:=w;have FJ:(h.p 3 (.Lo {KS gp with state:=.busy})).g 1=O (K [J (k:Nat)] 3 G):=by simp[hc]
  obtain⟨jH,Gc⟩:=akh (ev:=af Z C n) (x:=k) (by omega) (tm:=(gp.s 6 (J l[k].1)).s 7 (D l[k].2)) (by simp[hb]) FJ (by simp[t3]);have key:=Kj (T:=Z) (C:=C) (n:=n) (e:=.Nr) (args:=EY l[k]) (tm:=(gp.s 6 (J l[k].1)).s 7 (D l[k].2)) (r:=KS gp) rfl DB hb F119 rfl apD (fQ:=(gp.s 6 (J l[k].1)).s 7 (D l[k].2)) (h1:=h) rfl DB (.inl rfl) Gc (by simp);refine⟨Y,_,key,by simp[hb],by simp,λj h1 h2=>?_,λ_=>⟨by simp[hb],by simpa using hnx,by simp,by simp[hd],by simp[qX]⟩,λq=>by cases q⟩;have q1:¬j=3:=by omega
  have q2:¬j=1:=by omega
  simp[q1,q2]
def apF:∀(N:Nat)(t:zA),zD t<N->∀d,I (lg t d)=zD t:=by
 intro N;induction N with
 |zero=>intro t h;omega
 |succ N e=>
  intro t j d
  have b:∀(k:Int)(a:List zA)(i:Nat)(d:Int),(∀x∈a,zD x<N)->I (oc k i a d)=bA a:=by
   intro k a;induction a with
   |nil=>intro i d _;rw[oc];rfl
   |cons x a c=>
    intro i d h;rw[aaz,yD,e x (h x (by simp)),c _ _ λy f=>h y (by simp[f]),hG]
  rw[Oj,yo,b _ _ _ _ λx g=>by have:=mg g;omega];cases t;rw[kU];simp[zA.M];omega
def abv:aJ Z prog 119 (λt=>aI lP t/\zD t<ao) (λt=>[D t]) (λt=>J (zD t:Nat)):=by
 rintro t ⟨hf,P3⟩ B;have hlen:I (lg t 0)=zD t:=apF _ t (yL _) 0
 obtain⟨C,hC,L,M,N,P⟩:∃C,aR Z prog C/\Has C 155 (λ_:zA=>True) (λt=>[D t]) II/\Has C 174 (λ_:Unit=>True) (λ_=>[]) (λ_=>EV)/\C 175=(λ_ _=>U)/\C 173=(λ_ _=>U):=
  ⟨_,aZ (aZ aW apf) amT,Has.Ad λx y e=>(by simp at e;rw[cf e]),Has.Sk (by decide) (Has.Ad λx y _=>rfl),rfl,rfl⟩
 have k:∀n m,af Z C n (aj 155 [D t] m)=.r (II t) m U:=λn m=>L.ev (T:=Z) n (x:=t) trivial m;have o:∀n m,af Z C n (aj 174 [] m)=.r EV m U:=λn m=>M.ev (T:=Z) n (x:=()) trivial m;have Q:=λ(B:H)(q:B.g 1=O (K [J 0] 3 G))=>J6 (n:=0) q;let F:=EZ t+4
 have code:ay (λ_=>False) (λs=>∃tm h,s=⟨tm,eJ [2],h,U⟩/\tm.g 2=O (J (zD t:Nat))/\h.g 2=O (.Df (O []))) (λ_ _=>False) (λ_ _=>False)
  (aw Z (af Z C (F+1+1)) ⟨119,U⟩ (zS (z f119 pF0) (zS (z f119 pF1) (zS (zS (z f119 [Y,Y,G,G]) (zv 0 Kx)) (z f119 pT3)))) ⟨bF [D t] 0 .Nl,[],H.e,U⟩):=by
  refine ax (Q0:=λtm h=>h=H.e.w (K (ah (D t)) 31 G)/\tm.g 1=O (zM (O ⟨0,0,U⟩))) ?_ λtm h⟨e0,R⟩=>?_
  .simp[z,f119];exact .mk ⟨rfl,by simp⟩
  subst e0;refine ax (Q0:=λtm h=>h.b=0/\h.n=2/\h.g 0=O (K (ah (D t)) 31 G)/\h.g 1=O (K [J 0] 3 G)/\tm.g 1=O (zM (O ⟨0,0,U⟩))/\tm.g 3=O (zM (O ⟨1,0,U⟩))) ?_ λtm h⟨d,i,g0,S,R,j⟩=>?_
  .simp[z,f119,Q,z3z];exact .mk ⟨by simp,by simp,by simp,by simp,by simp[R],by simp⟩
  refine iw (N':=λs=>∃tm h,s=⟨tm,eJ [2],h,U⟩/\h.b=0/\tm.g 3=O (zM (O ⟨1,0,U⟩))/\h.g 1=O (K [J (zD t:Nat)] 3 G)/\h.g 2=O (.Df (O []))) (ax (Q0:=λc A=>A=h/\c.g 3=O (zM (O ⟨1,0,U⟩))/\c.g 5=O (II t)) ?_ λc A⟨eh,j,t5⟩=>?_) λs⟨tm,h,e,d,j,S,g2⟩=>?_
  .simp[z,f119,R,d,g0,k];exact .mk ⟨rfl,by simp[j],by simp⟩
  .subst eh;rw[hU,apC]
   have w:SW c 0 ((A.w (.Df (O []))).w (.Lo (KS c))):=by refine⟨by simp[d],by simp[i],by simp[i,S],by simp[i],by simp[i]⟩
   have W:=at2 (C:=C) N P o hf;let⟨h2,v,ev,p⟩:=W 3 4 1 _ _ (apE (C:=C) (l:=lg t 0) (by omega) j) _ (F+1+1) w (by show 1+(EZ t+2)<=EZ t+4+1+1;omega);rcases p with p|p
   .let⟨V,hn2,X,hd,hl⟩:=p;rw[hlen]at X;have hr:=Hs (T:=Z) (C:=C) (n:=F+1) (g:=119) (f:=.tmp 5) (ps:= #[6,7]) (a:=we) (b:=HM) (tm:=c) (df:=[]) (h:=A) (r:=KS c) (show aA c (.tmp 5)=_ from t5) (by rw[i];exact ev) (by rw[i];exact hl) (.inl ⟨rfl,rfl⟩);rw[hr];show ay _ _ _ _ (lq 0 (.c .Nr _));rw[Mz];refine⟨c,_,by rw[i];rfl,by simp[V],j,by simp[X],by simp[hd]⟩
   .exact p.elim
  .subst e;simp[z,f119,j,S,d];exact⟨_,_,⟨rfl,rfl⟩,by simp,g2⟩
 rcases code.cases with⟨_,_,q⟩|⟨s,e,jH,h2,rfl,q1,q2⟩|⟨_,_,_,q⟩|⟨_,_,_,q⟩
 .cases q
 .have u:cB Z (af Z C (F+1+1)) 119 [D t] H.e U (Z.f 119)=.r (J (zD t:Nat)) (iR h2 [2]) U:=by
   show cB Z (af Z C (F+I [2]+1)) 119 [D t] H.e U (Z.f 119)=_
   rw[Rw (T:=Z) (C:=C) (n:=F) (bs:=[2]) (vs:=[J (zD t:Nat)]) (h2:=iR h2 [2]) F119 aiu rfl (.inr rfl) e (by simp) (λb d=>by simp at d;subst d;exact q2) (by simp[f119,q1])]
   rfl
  exact ox tok C hC (.Cs (bg t) .Nl) _ u (.Pu (.Gd rfl)) B
 .cases q
 .cases q
def Az:yG:=z f194 [Y,Y,G,Y,G,G]
def aiv:f194.body=O (zS (z f194 pF0) (zS (z f194 pF1) (zS (zS (z f194 [Y,Y,G,G]) (zv 0 (yb Az))) (z f194 pT3)))):=rfl
structure Fu(x:aB)(i:Nat)(tm:Tr E)(h:H):Prop where
 base:h.b=0
 next:0<h.n
 cell:ae h 0 (ad (ah (aT x)) 63)
 t1:aa tm 1 (pB 0)
 t23:aa tm 23 (fq x.v)
 t24:aa tm 24 (J (I x.v:Nat))
 t25:aa tm 25 (J i)
def BQ(x:aB)(i:Nat)(h:i<I x.v):Prop:=
 (-65536<=x.v[i].index/\x.v[i].index<=7)/\(0<=x.v[i].plus/\x.v[i].plus<=100)/\(0<i->(x.v[i-1]'(by omega)).index<x.v[i].index)
section
variable{ev:zC->ag}{x:aB}{i:Nat}{tm:Tr E}{h:H}
def aki(H:Fu x i tm h)(s:i<I x.v)(F:i+1<=ao):
 aD (λl t=>BQ x i s/\Fu x (i+1) l t) (λl _=>l.g 2=O (zP G)/\¬BQ x i s) (λ_ _ _=>False)
  (aw Z ev ⟨194,U⟩ Az ⟨tm,[],h,U⟩):=by
 obtain⟨v,w,y,A,m,n,o⟩:=H;have u:=dA F;simp at u;have j:h.n≠0:=by omega
 have q:=λk=>ZA (i:=i) k (by omega);have B:i-1<I x.v:=by omega
 have L:∀l t,t.b=0->0<t.n->t.g 0=O (K (ah (aT x)) 63 G)->l.g 1=O (zM (O ⟨0,0,U⟩))->l.g 23=O (fq x.v)->l.g 24=O (J (I x.v:Nat))->l.g 25=O (J ((i:Int)+1))->Fu x (i+1) l t:=λl t a b c d e f g=>⟨a,b,c,d,e,f,g⟩;by_cases p:0<i
 all_goals
  by_cases c1:x.v[i].index< -65536
  .simp+contextual [Az,z,ak,sub,f194,A,m,n,o,y,v,w,j,j.symm,s,u,an,c1];intro r;unfold BQ at r;omega
  by_cases C:7<x.v[i].index
  .simp+contextual [Az,z,ak,sub,f194,A,m,n,o,y,v,w,j,j.symm,s,u,an,c1,C];intro r;unfold BQ at r;omega
  by_cases c3:x.v[i].plus<0
  .simp+contextual [Az,z,ak,sub,f194,A,m,n,o,y,v,w,j,j.symm,s,u,an,c1,C,c3];intro r;unfold BQ at r;omega
  by_cases c4:100<x.v[i].plus
  .simp+contextual [Az,z,ak,sub,f194,A,m,n,o,y,v,w,j,j.symm,s,u,an,c1,C,c3,c4];intro r;unfold BQ at r;omega
  first
   |(have q:=q p
     by_cases c5:x.v[i].index<=x.v[i-1].index
     .simp+contextual [Az,z,ak,sub,f194,A,m,n,o,y,v,w,j,j.symm,s,u,an,c1,C,c3,c4,c5,p,q,B];intro r;unfold BQ at r;omega)
   |skip
  simp+contextual [Az,z,ak,sub,f194,A,m,n,o,y,v,w,j,j.symm,s,u,an,c1,C,c3,c4,p,q,B, *];unfold BQ;omega
def amU(b:Fu x i tm h)(c:I x.v<=i):
 aD ap ap (λj _ _=>j=0) (aF Z ev 194 Az tm h):=by
 let⟨d,hn,h0,t1,t23,t24,t25⟩:=b;have a:¬i<I x.v:=by omega
 simp+contextual [Az,z,ak,sub,f194,t24,t25,a,an]
end
def SJ:aJ Z prog 194 (λx=>I x.v<ao) (λx=>[aT x]) (λx=>zP (fL x)):=by
 obtain⟨C,S,V⟩:∃C,aR Z prog C/\Has C 233 (λx:aB=>I x.v<ao) (λx=>[aT x]) (λx=>zP (oS x)):=
  ⟨_,aZ aW YI,Has.Ad λx y e=>by simp at e;rw[qC e]⟩
 refine λx W=>ku (v:=zP (fL x)) tok C S (.Cs (kR x) .Nl) bJ (I x.v+1) F194 aiv rfl ?_;have A:=λn m=>V.ev (T:=Z) n (x:=x) W m
 have X:aD (λtm h=>h=H.e.w (ad (ah (aT x)) 63)/\aa tm 1 (pB 0)) ap bE (aF Z (af Z C (I x.v+1+1)) 194 (z f194 pF0) (bF [aT x] 0 .Nl) H.e):=by simp[z,f194]
 have p1:∀tm h,(h=H.e.w (ad (ah (aT x)) 63)/\aa tm 1 (pB 0))->aD (λtm h=>((0<=x.c/\x.c<=100)/\(0<x.c->∀v∈x.v,v.plus<x.c))/\h=H.e.w (ad (ah (aT x)) 63)/\aa tm 1 (pB 0)) (λtm _=>tm.g 2=O (zP (fL x))) bE
  (aF Z (af Z C (I x.v+1+1)) 194 (z f194 pF1) tm h):=by
  rintro tm h ⟨rfl,t⟩;by_cases c1:x.c<0
  .rw[Cq λp=>by have:=p.1;omega];simp[z,f194,t,c1,an]
  .by_cases B:100<x.c
   .rw[Cq λp=>by have:=p.1;omega];simp[z,f194,t,c1,B,an]
   .have Q:0<=x.c:=by omega
    have R:x.c<=100:=by omega
    by_cases c3:0<x.c
    .by_cases F:∃v∈x.v,x.c<=v.plus
     .have l:oS x=Y:=by simp only[oS,decide_eq_true F]
      rw[Cq λp=>by let⟨v,N,hv2⟩:=F;obtain⟨k,s,rfl⟩:=yk.1 N;have:=(p.2 k s).2.2.2 c3;omega]
      simp[z,f194,t,c1,B,an,c3,A,l]
     .have l:oS x=G:=by simp only[oS,decide_eq_false F]
      simp[z,f194,t,c1,B,an,c3,A,l,Q,R]
      exact λv p=>by have:¬x.c<=v.plus:=λq=>F ⟨v,p,q⟩;omega
    .simp[z,f194,t,c1,B,an,c3,Q,R]
 have p2:∀tm h,(((0<=x.c/\x.c<=100)/\(0<x.c->∀v∈x.v,v.plus<x.c))/\h=H.e.w (ad (ah (aT x)) 63)/\aa tm 1 (pB 0))->aD (λtm h=>((0<=x.c/\x.c<=100)/\(0<x.c->∀v∈x.v,v.plus<x.c))/\Fu x 0 tm h) ap bE
  (aF Z (af Z C (I x.v+1+1)) 194 (z f194 [Y,Y,G,G]) tm h):=by
  rintro tm h ⟨L,rfl,t⟩;have P:∀o w,w.b=0->0<w.n->ae w 0 (ad (ah (aT x)) 63)->aa o 1 (pB 0)->aa o 23 (fq x.v)->aa o 24 (J (I x.v:Nat))->aa o 25 (J (0:Int))->Fu x 0 o w:=λo w a b c d e f g=>⟨a,b,c,d,e,f,g⟩;simp only[L,true_and];simp[z,f194,t];exact⟨L.2,P _ _ (by simp) (by simp) (by simp) (by simp[t]) (by simp) (by simp) (by simp)⟩
 refine aS (X.Mo bT aP cS) λtm h q=>aS (p1 tm h q) λtm h q=>
  aS (N':=λtm h=>lu x) (aS ((p2 tm h q).Mo bT aP cS) λtm h q=>?_) λtm h q=>?_
 .let⟨⟨L,l⟩,M⟩:=q;refine fU 0 (λj tm h=>∃i,j=I x.v-i/\i<=I x.v/\Fu x i tm h/\∀k s,k<i->BQ x k s) (I x.v) ⟨0,rfl,by omega,M,λk _ s=>by omega⟩ (by omega) ?_;rintro j tm h m ⟨i,rfl,hi,M,u⟩-;by_cases r:i<I x.v
  .refine(aki M r (by omega)).Mo (λo w q=>⟨_,by omega,i+1,rfl,r,q.2,λk s hki=>?_⟩) (λo _ q=>?_) jr
   .by_cases e:k=i
    .subst e;exact q.1
    .exact u k s (by omega)
   .rw[q.1,Cq λp=>q.2 ⟨(p.2 i r).1,(p.2 i r).2.1,(p.2 i r).2.2.1⟩]
  .refine(amU M (by omega)).Mo aP aP (λ_ _ _ q=>⟨q,L,λk s=>?_⟩);let⟨v1,v2,v3⟩:=u k s (by omega);exact⟨v1,v2,v3,λhp=>l hp _ (zW s)⟩
 .rw[Ri q];simp[z,f194]
theorem F64:Z.f 64=O f64:=by kernel_rfl
def IJ(x:aB):H:=H.e.w (ad (ah (aT x)) 63)
@[simp] theorem aFk(x:aB):(IJ x).b=0:=by simp[IJ]
@[simp] theorem aHk(x:aB):(IJ x).g 0=O (ad (ah (aT x)) 63):=by simp[IJ]
def AA(p:Int)(v:ga):Prop:=p<=v.index
def CY(l:Int)(v:ga):Prop:=v.index<0/\l<=aL (-1-v.index)
theorem amV{p l:Int}{x:aB}(h:fL x=G):ic p l x=3:=by
 have:¬lu x:=λa=>by rw[Ri a]at h;cases h
 simp[ic,this]
theorem akj{x:aB}(h:fL x=Y):lu x:=by
 by_cases a:lu x
 .exact a
 .rw[Cq a]at h;cases h
theorem akk{p l:Int}{x:aB}(h:lu x){v:ga}(a:v∈x.v)(b:AA p v):ic p l x=15:=by have:∃v∈x.v,p<=v.index:=⟨v,a,b⟩;unfold ic;rw[if_neg (by simp[h]),if_pos this]
theorem akl{p l:Int}{x:aB}(h:lu x)(c:∀v∈x.v,¬AA p v){v:ga}(d:v∈x.v)(e:CY l v):ic p l x=23:=by have f:¬∃v∈x.v,p<=v.index:=λ⟨v,a,b⟩=>c v a b;have g:∃v∈x.v,v.index<0/\l<=aL (-1-v.index):=⟨v,d,e⟩;unfold ic;rw[if_neg (by simp[h]),if_neg f,if_pos g]
theorem amW{p l:Int}{x:aB}(h:lu x)(c:∀v∈x.v,¬AA p v)(d:∀v∈x.v,¬CY l v):ic p l x=0:=by have e:¬∃v∈x.v,p<=v.index:=λ⟨v,a,b⟩=>c v a b;have f:¬∃v∈x.v,v.index<0/\l<=aL (-1-v.index):=λ⟨v,a,b⟩=>d v a b;unfold ic;rw[if_neg (by simp[h]),if_neg e,if_neg f]
theorem ack{l:List A}(h:∀k(a:k<I l),L l[k]):∀v∈l,L v:=λv b=>by obtain⟨k,a,rfl⟩:=yk.1 b;exact h k a
def E1:yG:=z f64 [Y,Y,G,Y,G,G]
def E2:yG:=z f64 [Y,Y,Y,G,Y,G,G]
theorem akm:f64.body=O (zS (z f64 pF0) (zS (z f64 pF1) (zS (zS (z f64 [Y,Y,G,G]) (zv 0 (yb E1))) (zS (zS (z f64 [Y,Y,Y,G,G]) (zv 2 (yb E2))) (z f64 pT4))))):=rfl
def iY(x:aB)(p l:Int)(tm:Tr E)(h:H):Prop:=h=IJ x/\aa tm 1 (J p)/\aa tm 2 (J l)/\aa tm 3 (pB 0)
section
variable{ev:zC->ag}{x:aB}{p l:Int}{i:Nat}{tm:Tr E}{h:H}(hp:0<=p)(st:iY x p l tm h)
include st
include hp in
theorem akn(d:aa tm 7 (J i))(e:i<I x.v)(f:i+1<=ao):
 aD (λa n=>¬AA p x.v[i]/\iY x p l a n/\aa a 7 (J (i+1:Nat))) (λa _=>AA p x.v[i]/\aa a 6 (J 15)) bE
  (aF Z ev 64 E1 tm h):=by
 obtain⟨rfl,g,m,j⟩:=st;have k:=dA f;simp at k;by_cases c:p<=x.v[i].index
 .have b:0<=x.v[i].index:=by omega
  simp[E1,z,f64,g,j,d,e,an,c,b,AA,iY]
 .by_cases b:0<=x.v[i].index
  .simp[E1,z,f64,g,m,j,d,e,k,an,c,b,AA,iY];try omega
  .simp[E1,z,f64,g,m,j,d,e,k,an,c,b,AA,iY];try omega
theorem amX(c:aa tm 7 (J i))(k:I x.v<=i):
 aD ap ap (λj a d=>j=0/\iY x p l a d) (aF Z ev 64 E1 tm h):=by
 obtain⟨rfl,e,f,g⟩:=st;have b:¬i<I x.v:=by omega
 simp[E1,z,f64,e,f,g,c,b,an,iY]
theorem ako(b:aa tm 8 (J i))(d:i<I x.v)(e:i+1<=ao):
 aD (λa n=>¬CY l x.v[i]/\iY x p l a n/\aa a 8 (J (i+1:Nat))) (λa _=>CY l x.v[i]/\aa a 6 (J 23)) bE
  (aF Z ev 64 E2 tm h):=by
 obtain⟨rfl,m,f,g⟩:=st;have j:=dA e;simp at j;by_cases k:x.v[i].index<0
 .by_cases c:l<=zx.wrap (-1-x.v[i].index)
  .simp[E2,z,f64,f,g,b,d,an,c,k,CY,iY]
  .simp[E2,z,f64,m,f,g,b,d,j,an,c,k,CY,iY];try omega
 .simp[E2,z,f64,m,f,g,b,d,j,an,k,CY,iY];try omega
theorem amY(b:aa tm 8 (J i))(e:I x.v<=i):
 aD ap ap (λj c f=>j=2) (aF Z ev 64 E2 tm h):=by
 obtain⟨rfl,g,k,d⟩:=st;have a:¬i<I x.v:=by omega
 simp[E2,z,f64,d,b,a,an]
end
structure ac9 where
 x:aB
 p:Int
 l:Int
theorem amZ:aJ Z prog 64 (λy:ac9=>I y.x.v<ao/\0<=y.p) (λy=>[aT y.x,J y.p,J y.l]) (λy=>J (ic y.p y.l y.x)):=by
 obtain⟨C,F,L⟩:∃C,aR Z prog C/\Has C 17 (λx:aB=>I x.v<ao) (λx=>[aT x]) (λx=>zP (fL x)):=
  ⟨_,aZ aW api,Has.Ad λx y e=>by simp at e;rw[qC e]⟩
 rintro⟨x,p,l⟩ ⟨w,hp⟩;have w:I x.v<ao:=w;have hp:0<=p:=hp;have o:=λn m=>L.ev (T:=Z) n (x:=x) w m;refine ku (v:=J (ic p l x)) tok C F (.Cs (kR x) pZ) bJ (I x.v+1) F64 akm rfl ?_
 have M:aD (λtm h=>iY x p l tm h) ap bE (aF Z (af Z C (I x.v+1+1)) 64 (z f64 pF0) (bF [aT x,J p,J l] 0 .Nl) H.e):=by simp[z,f64,iY,IJ]
 have N:∀tm h,iY x p l tm h->aD (λtm h=>lu x/\iY x p l tm h) (λtm _=>tm.g 6=O (J (ic p l x))) bE (aF Z (af Z C (I x.v+1+1)) 64 (z f64 pF1) tm h):=by
  rintro tm h ⟨rfl,r,s,g⟩;cases c:fL x with
  |false=>
   rw[amV c];simp[z,f64,g,o,c]
  |true=>
   simp[z,f64,r,s,g,o,c,iY];exact akj c
 have P:∀tm h,lu x/\iY x p l tm h->aD (λtm h=>lu x/\iY x p l tm h/\aa tm 7 (J (0:Nat))) ap bE (aF Z (af Z C (I x.v+1+1)) 64 (z f64 [Y,Y,G,G]) tm h):=by rintro tm h ⟨c,rfl,r,s,g⟩;simp[z,f64,r,s,g,iY,c]
 have Q:∀tm h,iY x p l tm h->aD (λtm h=>iY x p l tm h/\aa tm 8 (J (0:Nat))) ap bE (aF Z (af Z C (I x.v+1+1)) 64 (z f64 [Y,Y,Y,G,G]) tm h):=by rintro tm h ⟨rfl,r,s,g⟩;simp[z,f64,r,s,g,iY]
 refine aS (M.Mo bT aP cS) λtm h q=>aS (N tm h q) λtm h q=>
  aS (N':=λtm h=>lu x/\(∀v∈x.v,¬AA p v)/\iY x p l tm h) (aS ((P tm h q).Mo bT aP cS) λtm h q=>?_) λtm h q=>
  aS (N':=λtm h=>ic p l x=0) (aS ((Q tm h q.2.2).Mo bT aP cS) λtm h R=>?_) λtm h q=>?_
 .let⟨c,st,t⟩:=q;refine fU 0 (λj tm h=>∃i:Nat,j=I x.v-i/\i<=I x.v/\iY x p l tm h/\aa tm 7 (J i)/\∀k(d:k<I x.v),k<i->¬AA p x.v[k]) (I x.v) ⟨0,by omega,by omega,st,t,λk _ d=>by omega⟩ (by omega) ?_;rintro j tm h m ⟨i,rfl,S,st,t,a⟩-;by_cases b:i<I x.v
  .refine(akn hp st t b (by omega)).Mo (λf V q=>⟨_,by omega,i+1,rfl,b,q.2.1,q.2.2,λk d A=>?_⟩) (λf _ q=>?_) jr
   .by_cases e:k=i
    .subst e;exact q.1
    .exact a k d (by omega)
   .rw[q.2,akk c (zW b) q.1]
  .exact(amX st t (by omega)).Mo aP aP (λ_ _ _ q=>⟨q.1,c,ack λk d=>a k d (by omega),q.2⟩)
 .let⟨c,B,_⟩:=q;let⟨st,u⟩:=R;refine fU 0 (λj tm h=>∃i:Nat,j=I x.v-i/\i<=I x.v/\iY x p l tm h/\aa tm 8 (J i)/\∀k(d:k<I x.v),k<i->¬CY l x.v[k]) (I x.v) ⟨0,by omega,by omega,st,u,λk _ d=>by omega⟩ (by omega) ?_;rintro j tm h m ⟨i,rfl,S,st,u,a⟩-;by_cases b:i<I x.v
  .refine(ako st u b (by omega)).Mo (λf V q=>⟨_,by omega,i+1,rfl,b,q.2.1,q.2.2,λk d A=>?_⟩) (λf _ q=>?_) jr
   .by_cases e:k=i
    .subst e;exact q.1
    .exact a k d (by omega)
   .rw[q.2,akl c B (zW b) q.1]
  .exact(amY st u (by omega)).Mo aP aP (λ_ _ _ q=>⟨q,amW c B (ack λk d=>a k d (by omega))⟩)
 .rw[q];simp[z,f64]
end Go.Proofs.YtpeialehpoilbaaGreat
namespace Go.Am.Eu
def BB(l:List aB):Nat:=(l.map λx=>1+I x.v).sum
def ZI:∀{l:List aB}{x:aB},x∈l->I x.v<BB l
 |y::l,x,h=>by
  simp only[BB,xK,List.sum_cons];rcases zp.1 h with rfl|h
  .omega
  .have:=ZI h;simp only[BB]at this;omega
def ZJ:∀l:List aB,I l<=BB l
 |[]=>by simp
 |y::l=>by have:=ZJ l;simp only[BB,xK,List.sum_cons,yo]at this⊢;omega
mutual
def wt:zA->Nat
 |.mk _ _ n l ks=>1+n.size+BB l+fA ks
def fA:List zA->Nat
 |[]=>0
 |t::l=>wt t+fA l
end
def Uy{n:ByteArray}{l:List aB}:wt (.mk c e n l y)=1+n.size+BB l+fA y:=by simp[wt]
def rZ(t:zA):wt t=1+t.F.size+BB t.H+fA t.M:=by cases t;rw[Uy];rfl
def G4:fA (a::y)=wt a+fA y:=by simp[fA]
def HB:∀{l:List zA}{t:zA},t∈l->wt t<=fA l
 |x::l,t,h=>by
  rw[G4];rcases zp.1 h with rfl|h
  .omega
  .have:=HB h;omega
def EG{x:zA}(h:x∈a.M):wt x<wt a:=by rw[rZ a];have:=HB h;omega
def Hc:∀l:List zA,I l<=fA l
 |[]=>by simp
 |t::l=>by
  have:=Hc l;have a:1<=wt t:=by rw[rZ];omega
  rw[G4,yo];omega
def N1(t:zA):I t.M<wt t:=by rw[rZ];have:=Hc t.M;omega
def Sd(t:zA):I t.H<wt t:=by rw[rZ];have:=ZJ t.H;omega
def aaA{x:aB}(h:x∈a.H):I x.v<wt a:=by rw[rZ];have:=ZI h;omega
mutual
theorem Em:∀t:zA,zD t<=wt t
 |.mk k i n l ks=>by rw[kU,Uy];have:=Se ks;omega
theorem Se:∀l:List zA,bA l<=fA l
 |[]=>by simp[bA,fA]
 |t::l=>by rw[hG,G4];have:=Em t;have:=Se l;omega
end
def XQ{a:List aB}(b:i<I a):mT c e (a.drop i)=if ic c e a[i]≠0 then ic c e a[i]else mT c e (a.drop (i+1)):=by rw[yK b,mT]
def ahf{a:List aB}(b:I a<=i):mT c e (a.drop i)=0:=by rw[yN b,mT]
end Go.Am.Eu
namespace Go.Proofs.YtpeialehpoilbaaGreat
@[simp] theorem z86:zero Z 63=O (aAg [J 0,zL U 0 0]):=by kernel_rfl
@[simp] theorem aHl(x:aB):zG Z h 63 (aT x) (pB n)=ml h n 0 (ah (aT x)) (h.g n):=by show bN U (ml h n 0 (ah (aT x)) (h.g n)) (fits (ah (aT x)) (Am.zI Z 63))=_;rw[AZ];rfl
@[simp] theorem aBW(x:aB){g:Bool}:ml h n 0 (ah (aT x)) (O (K [v,N] t g))=O (h.p n (K (ah (aT x)) t g)):=rfl
end Go.Proofs.YtpeialehpoilbaaGreat
namespace Go.Am.Eu
theorem aaB{m l:Int}{k:Int}{i:Nat}(a:i<I y):pt c e m l n k i (y.drop i)=if jG c e m l (n+mn k i) y[i]≠0 then jG c e m l (n+mn k i) y[i]else pt c e m l n k (i+1) (y.drop (i+1)):=by rw[yK a,aal]
theorem apG{m l:Int}{k:Int}{i:Nat}(a:I y<=i):pt c e m l n k i (y.drop i)=0:=by rw[yN a,aoX]
theorem akp(k:Int)(i:Nat):mn k i<=1:=by unfold mn;split<;>omega
end Go.Am.Eu
namespace Go.Proofs.YtpeialehpoilbaaGreat
theorem F42:Z.f 42=O f42:=by kernel_rfl
def KT:yG:=z f42 [Y,Y,Y,Y,G,Y,G,G]
def KU:yG:=z f42 [Y,Y,Y,Y,Y,Y,Y,G,Y,G,G]
theorem akq:f42.body=O (zS (z f42 pF0) (zS (z f42 pF1) (zS (z f42 pF2) (zS (z f42 pF3)
 (zS (zS (z f42 [Y,Y,Y,Y,G,G]) (zv 0 (yb KT))) (zS (z f42 pF5) (zS (z f42 pF6)
   (zS (zS (z f42 [Y,Y,Y,Y,Y,Y,Y,G,G]) (zv 2 (yb KU))) (z f42 pT8))))))))):=rfl
structure eQ where
 t:zA
 d:Nat
 v:Int
 p:Int
 m:Int
 l:Int
def eQ.enc(x:eQ):List E:=[D x.t,J (x.d:Nat),J x.v,J x.p,J x.m,J x.l]
theorem eQ.He{x y:eQ}(h:x.enc=y.enc):x=y:=by cases x;cases y;simp[eQ.enc]at h;let⟨h0,h1,a,b,c,d⟩:=h;rw[cf h0,a,b,c,d];congr 1;omega
def eQ.nE(x:eQ):Int:=m6 x.v x.p x.m x.l x.d x.t
def eQ.cE(x:eQ):Int:=jG x.v x.p x.m x.l x.d x.t
theorem eQ.Hf{x:eQ}(h:x.nE≠0):x.cE=x.nE:=by show jG _ _ _ _ _ _=_;rw[TK];exact if_pos h
theorem eQ.apH{x:eQ}(h:x.nE=0):x.cE=pt x.v x.p x.m x.l x.d x.t.w 0 x.t.M:=by show jG _ _ _ _ _ _=_;rw[TK];exact if_neg (λk=>k h)
def eZ(x:eQ)(tm:Tr E):Prop:=
 aa tm 1 (J (x.d:Nat))/\aa tm 2 (J x.v)/\aa tm 3 (J x.p)/\aa tm 4 (J x.m)/\aa tm 5 (J x.l)/\aa tm 6 (pB 0)
section
variable{ev:zC->ag}{x:eQ}{i:Nat}{tm:Tr E}{h:H}
theorem arW:aD (λtm h=>h=dG x.t/\eZ x tm) ap bE (aF Z ev 42 (z f42 pF0) (bF x.enc 0 .Nl) H.e):=by simp[z,f42,eZ,eQ.enc,dG]
variable(st:h=dG x.t/\eZ x tm)
include st
theorem arX(a:∀h,ev (aj 62 [D x.t] h)=.r (zP (jX x.t)) h U):
 aD (λtm h=>jX x.t=Y/\h=dG x.t/\eZ x tm) (λtm _=>jX x.t=G/\aa tm 12 (J 3)) bE (aF Z ev 42 (z f42 pF1) tm h):=by
 obtain⟨rfl,b,c,d,e,f,g⟩:=st;cases i:jX x.t<;>simp[z,f42,a,i,b,c,d,e,f,g,eZ]
theorem arY(a:∀h,ev (aj 63 [zN x.t.F] h)=.r (zP (oz x.t.F)) h U):
 aD (λtm h=>¬(x.t.w=3/\oz x.t.F=G)/\h=dG x.t/\eZ x tm) (λtm _=>(x.t.w=3/\oz x.t.F=G)/\aa tm 12 (J 29)) bE (aF Z ev 42 (z f42 pF2) tm h):=by
 obtain⟨rfl,b,c,d,e,f,g⟩:=st;by_cases i:x.t.w=3
 .cases j:oz x.t.F<;>simp[z,f42,a,j,i,b,c,d,e,f,g,eZ]
 .simp[z,f42,i,b,c,d,e,f,g,eZ]
theorem arZ:aD (λtm h=>¬8<I x.t.H/\h=dG x.t/\eZ x tm) (λtm _=>8<I x.t.H/\aa tm 12 (J 6)) bE (aF Z ev 42 (z f42 pF3) tm h):=by
 obtain⟨rfl,d,e,f,g,i,a⟩:=st;have b:(8<(I x.t.H:Int))=(8<I x.t.H):=by apply propext;omega
 by_cases c:8<I x.t.H
 .simp[z,f42,c,b,a,eZ]
 .simp[z,f42,c,b,d,e,f,g,i,a,eZ];try omega
theorem ar0:aD (λtm h=>h=dG x.t/\eZ x tm/\aa tm 13 (J (0:Nat))) ap bE (aF Z ev 42 (z f42 [Y,Y,Y,Y,G,G]) tm h):=by obtain⟨rfl,a,b,c,d,e,f⟩:=st;simp[z,f42,a,b,c,d,e,f,eZ]
theorem akr(b:∀y∈x.t.H,∀h,ev (aj 64 [aT y,J x.p,J x.l] h)=.r (J (ic x.p x.l y)) h U)(d:aa tm 13 (J i))(f:i<I x.t.H)(e:i+1<=ao):
 aD (λa j=>ic x.p x.l x.t.H[i]=0/\(j=dG x.t/\eZ x a)/\aa a 13 (J (i+1:Nat))) (λa _=>ic x.p x.l x.t.H[i]≠0/\aa a 12 (J (ic x.p x.l x.t.H[i]))) bE
  (aF Z ev 42 KT tm h):=by
 obtain⟨rfl,k,l,m,n,o,p⟩:=st;have g:=dA e;simp at g;have q:=b x.t.H[i] (zW f);by_cases c:ic x.p x.l x.t.H[i]=0<;>simp[KT,z,f42,q,c,k,l,m,n,o,p,d,f,g,eZ]
theorem am0(a:aa tm 13 (J i))(n:I x.t.H<=i):
 aD ap ap (λj b d=>j=0/\d=dG x.t/\eZ x b) (aF Z ev 42 KT tm h):=by
 obtain⟨rfl,e,f,g,k,l,m⟩:=st;have c:¬i<I x.t.H:=by omega
 simp[KT,z,f42,e,f,g,k,l,m,a,c,eZ]
theorem ar1:aD (λtm h=>¬(x.t.w=0/\(x.t.Q<0\/x.v<=aL (x.t.Q-x.d)))/\h=dG x.t/\eZ x tm) (λtm _=>(x.t.w=0/\(x.t.Q<0\/x.v<=aL (x.t.Q-x.d)))/\aa tm 12 (J 24)) bE (aF Z ev 42 (z f42 pF5) tm h):=by
 obtain⟨rfl,a,b,f,g,i,c⟩:=st;by_cases d:x.t.w=0
 .by_cases e:x.t.Q<0
  .simp[z,f42,a,b,c,eZ,d,e]
  .by_cases j:x.v<=zx.wrap (x.t.Q-x.d)
   .simp[z,f42,a,b,c,eZ,d,e,j]
   .simp[z,f42,a,b,f,g,i,c,eZ,d,e,j];try omega
 .simp[z,f42,a,b,f,g,i,c,eZ,d]
theorem ar2:aD (λtm h=>¬(x.t.w=12/\(x.t.Q<0\/x.m<=x.t.Q))/\h=dG x.t/\eZ x tm) (λtm _=>(x.t.w=12/\(x.t.Q<0\/x.m<=x.t.Q))/\aa tm 12 (J 23)) bE (aF Z ev 42 (z f42 pF6) tm h):=by
 obtain⟨rfl,e,f,g,a,i,b⟩:=st;by_cases c:x.t.w=12
 .by_cases d:x.t.Q<0
  .simp[z,f42,a,b,eZ,c,d]
  .by_cases j:x.m<=x.t.Q
   .simp[z,f42,a,b,eZ,c,d,j]
   .simp[z,f42,e,f,g,a,i,b,eZ,c,d,j];try omega
 .simp[z,f42,e,f,g,a,i,b,eZ,c]
theorem ar3:aD (λtm h=>h=dG x.t/\eZ x tm/\aa tm 15 (J (0:Nat))) ap bE (aF Z ev 42 (z f42 [Y,Y,Y,Y,Y,Y,Y,G,G]) tm h):=by obtain⟨rfl,a,b,c,d,e,f⟩:=st;simp[z,f42,a,b,c,d,e,f,eZ]
theorem aks(b:∀(k:Int)(i:Nat) h,ev (aj 65 [J k,J (i:Nat)] h)=.r (J (mn k i:Nat)) h U)
 (d:∀y∈x.t.M,∀(e:Nat),e<=1->∀h,ev (aj 42 [D y,J (x.d+e:Nat),J x.v,J x.p,J x.m,J x.l] h)=.r (J (jG x.v x.p x.m x.l (x.d+e) y)) h U)(f:aa tm 15 (J i))(j:i<I x.t.M)(g:i+1<=ao)(A:x.d+1<=ao):
 aD (λa p=>jG x.v x.p x.m x.l (x.d+mn x.t.w i) x.t.M[i]=0/\(p=dG x.t/\eZ x a)/\aa a 15 (J (i+1:Nat))) (λa _=>jG x.v x.p x.m x.l (x.d+mn x.t.w i) x.t.M[i]≠0/\aa a 12 (J (jG x.v x.p x.m x.l (x.d+mn x.t.w i) x.t.M[i]))) bE
  (aF Z ev 42 KU tm h):=by
 obtain⟨rfl,q,r,s,t,u,v⟩:=st;have l:=dA g;simp at l;have w:=akp x.t.w i;have m:=dA (n:=x.d+mn x.t.w i) (by omega);simp at m;have o:=d x.t.M[i] (zW j) _ w;simp at o;by_cases c:jG x.v x.p x.m x.l (x.d+mn x.t.w i) x.t.M[i]=0<;>simp[KU,z,f42,b,o,c,q,r,s,t,u,v,f,j,l,m,eZ]
theorem am1(a:aa tm 15 (J i))(n:I x.t.M<=i):
 aD ap ap (λj b d=>j=2/\d=dG x.t/\eZ x b) (aF Z ev 42 KU tm h):=by
 obtain⟨rfl,e,f,g,k,l,m⟩:=st;have c:¬i<I x.t.M:=by omega
 simp[KU,z,f42,e,f,g,k,l,m,a,c,eZ]
theorem ar4:aD ap (λtm _=>tm.g 12=O (J 0)) bE (aF Z ev 42 (z f42 pT8) tm h):=by obtain⟨rfl,a,b,c,d,e,f⟩:=st;simp[z,f42]
end
theorem ahg{t:zA}(h:jX t=Y)(c:8<I t.H):t.w=3:=by
 have b:Bz t:=by
  by_cases a:Bz t
  .exact a
  .rw[MK a]at h;cases h
 have:=b.2.2.2.2;split at this
 .omega
 .rcases this with e|e
  .omega
  .exact e
theorem apI:aJ Z prog 42 (λx:eQ=>wt x.t+x.d<ao/\0<=x.p) eQ.enc (λx=>J x.cE):=by
 refine Td (λx=>wt x.t) λx F H=>?_;obtain⟨ht,hp⟩:wt x.t+x.d<ao/\0<=x.p:=F
 obtain⟨C,hC,L,r,t,u,w⟩:∃C,aR Z prog C/\Has C 42 (λy:eQ=>wt y.t<wt x.t/\wt y.t+y.d<ao/\0<=y.p) eQ.enc (λy=>J y.cE)/\Has C 62 (λ_:zA=>True) (λy=>[D y]) (λy=>zP (jX y))/\
  Has C 63 (λs:ByteArray=>s.size<ao) (λy=>[zN y]) (λy=>zP (oz y))/\Has C 64 (λy:ac9=>I y.x.v<ao/\0<=y.p) (λy=>[aT y.x,J y.p,J y.l]) (λy=>J (ic y.p y.l y.x))/\
  Has C 65 (λ_:Int×Nat=>True) (λy=>[J y.1,J (y.2:Nat)]) (λy=>J (mn y.1 y.2:Nat)):=
  ⟨_,aZ (aZ (aZ (aZ (aZ aW H) apg) abl) amZ) al9,.Sk (by decide) (.Sk (by decide) (.Sk (by decide) (.Sk (by decide) (.Ad λx y e=>by rw[eQ.He e])))),.Sk (by decide) (.Sk (by decide) (.Sk (by decide) (.Ad λx y e=>by simp at e;rw[cf e]))),.Sk (by decide) (.Sk (by decide) (.Ad λx y e=>by simp at e;rw[e])),.Sk (by decide) (.Ad λx y e=>by
     let⟨x1,x2,x3⟩:=x;let⟨y1,y2,y3⟩:=y;simp at e;rw[qC e.1,e.2.1,e.2.2]),.Ad λx y e=>by
     let⟨x1,x2⟩:=x;let⟨y1,y2⟩:=y;simp at e;let⟨e1,e2⟩:=e;have:x2=y2:=by omega
     rw[e1,this]⟩
 have hk:=N1 x.t;have hl:=Sd x.t;have X:x.t.F.size<ao:=by have:=rZ x.t;omega
 refine ku (v:=J x.cE) tok C hC (.Cs (bg x.t) (.Cs bJ (.Cs bJ HY))) bJ (I x.t.M+I x.t.H+1) F42 akq rfl ?_;have M:=λn m=>r.ev (T:=Z) n (x:=x.t) trivial m;have N:=λn m=>t.ev (T:=Z) n (x:=x.t.F) X m;have P:=λn(y:aB)(V:y∈x.t.H) m=>u.ev (T:=Z) n (x:=⟨y,x.p,x.l⟩) ⟨by have:=aaA V;show I y.v<ao;omega,hp⟩ m;have Q:=λn(k:Int)(i:Nat) m=>w.ev (T:=Z) n (x:=(k,i)) trivial m
 have e64:∀n,∀y∈x.t.M,∀(e:Nat),e<=1->∀m,af Z C n (aj 42 [D y,J (x.d+e:Nat),J x.v,J x.p,J x.m,J x.l] m)=.r (J (jG x.v x.p x.m x.l (x.d+e) y)) m U:=
  λn y V e he m=>L.ev (T:=Z) n (x:=⟨y,x.d+e,x.v,x.p,x.m,x.l⟩) ⟨EG V,by have:=EG V;show wt y+(x.d+e)<ao;omega,hp⟩ m
 refine aS (arW.Mo bT aP cS) λtm h st=>aS ((arX st (M _)).Mo bT (λtm _ q=>?_) cS) λtm h p=>
  aS ((arY p.2 (N _)).Mo bT (λtm _ q=>?_) cS) λtm h B=>
  aS ((arZ B.2).Mo bT (λtm _ q=>?_) cS) λtm h R=>
  aS (N':=λtm h=>mT x.p x.l x.t.H=0/\h=dG x.t/\eZ x tm) (aS ((ar0 R.2).Mo bT aP cS) λtm h q=>?_) λtm h W=>
  aS ((ar1 W.2).Mo bT (λtm _ q=>?_) cS) λtm h q5=>
  aS ((ar2 q5.2).Mo bT (λtm _ q=>?_) cS) λtm h q6=>
  aS (N':=λtm h=>x.cE=0/\h=dG x.t/\eZ x tm) (aS ((ar3 q6.2).Mo bT aP cS) λtm h q=>?_) λtm h q7=>?_
 .have g:x.nE=3:=by unfold eQ.nE m6;rw[if_pos q.1]
  rw[q.2,eQ.Hf (by rw[g];decide),g]
 .have c:¬jX x.t=G:=by rw[p.1];simp
  have g:x.nE=29:=by unfold eQ.nE m6;rw[if_neg c,if_pos q.1]
  rw[q.2,eQ.Hf (by rw[g];decide),g]
 .have c:¬jX x.t=G:=by rw[p.1];simp
  have g:x.nE=6:=by unfold eQ.nE m6;rw[if_neg c,if_neg B.1,if_pos ⟨ahg p.1 q.1,q.1⟩]
  rw[q.2,eQ.Hf (by rw[g];decide),g]
 .let⟨a,b,l⟩:=q;refine fU 0 (λj tm h=>∃i:Nat,j=I x.t.H-i/\i<=I x.t.H/\(h=dG x.t/\eZ x tm)/\aa tm 13 (J i)/\mT x.p x.l x.t.H=mT x.p x.l (x.t.H.drop i)) (I x.t.H) ⟨0,by omega,by omega,⟨a,b⟩,l,by rw[yY]⟩ (by omega) ?_;rintro j tm h m ⟨i,rfl,hi,st,l,d⟩-;by_cases f:i<I x.t.H
  .refine(akr st (P m) l f (by omega)).Mo (λA h' q=>⟨_,by omega,i+1,rfl,f,q.2.1,q.2.2,?_⟩) (λA _ q=>?_) jr
   .rw[d,XQ f,if_neg (by simp[q.1])]
   .have hl:mT x.p x.l x.t.H=ic x.p x.l x.t.H[i]:=by rw[d,XQ f,if_pos q.1]
    have c:¬jX x.t=G:=by rw[p.1];simp
    have g:x.nE=ic x.p x.l x.t.H[i]:=by unfold eQ.nE m6;rw[if_neg c,if_neg B.1,if_neg (λk=>R.1 k.2),hl,if_pos q.1]
    rw[q.2,eQ.Hf (by rw[g];exact q.1),g]
  .refine(am0 st l (by omega)).Mo aP aP (λ_ _ _ q=>⟨q.1,?_,q.2⟩);rw[d,ahf (by omega)]
 .have c:¬jX x.t=G:=by rw[p.1];simp
  have S:¬mT x.p x.l x.t.H≠0:=λh=>h W.1;have g:x.nE=24:=by unfold eQ.nE m6;rw[if_neg c,if_neg B.1,if_neg (λk=>R.1 k.2),if_neg S,if_pos q.1]
  rw[q.2,eQ.Hf (by rw[g];decide),g]
 .have c:¬jX x.t=G:=by rw[p.1];simp
  have S:¬mT x.p x.l x.t.H≠0:=λh=>h W.1;have g:x.nE=23:=by unfold eQ.nE m6;rw[if_neg c,if_neg B.1,if_neg (λk=>R.1 k.2),if_neg S,if_neg q5.1,if_pos q.1]
  rw[q.2,eQ.Hf (by rw[g];decide),g]
 .let⟨a,b,o⟩:=q;have c:¬jX x.t=G:=by rw[p.1];simp
  have S:¬mT x.p x.l x.t.H≠0:=λh=>h W.1;have hn:x.nE=0:=by unfold eQ.nE m6;rw[if_neg c,if_neg B.1,if_neg (λk=>R.1 k.2),if_neg S,if_neg q5.1,if_neg q6.1]
  have hc:=eQ.apH hn;refine fU 0 (λj tm h=>∃i:Nat,j=I x.t.M-i/\i<=I x.t.M/\(h=dG x.t/\eZ x tm)/\aa tm 15 (J i)/\x.cE=pt x.v x.p x.m x.l x.d x.t.w i (x.t.M.drop i)) (I x.t.M) ⟨0,by omega,by omega,⟨a,b⟩,o,by rw[yY];exact hc⟩ (by omega) ?_;rintro j tm h m ⟨i,rfl,hi,st,o,d⟩-;by_cases f:i<I x.t.M
  .refine(aks st (Q m) (e64 m) o f (by omega) (by omega)).Mo (λA h' q=>⟨_,by omega,i+1,rfl,f,q.2.1,q.2.2,?_⟩) (λA _ q=>?_) jr
   .rw[d,aaB f,if_neg (by simp[q.1])]
   .rw[q.2,d,aaB f,if_pos q.1]
  .refine(am1 st o (by omega)).Mo aP aP (λ_ _ _ q=>⟨q.1,?_,q.2⟩);rw[d,apG (by omega)]
 .rw[q7.1];exact(ar4 q7.2).Mo aP bT cS
end Go.Proofs.YtpeialehpoilbaaGreat
namespace Go.Am.Eu
theorem Ya:∀{l:List zA}{i:Nat}(b:i<I l),mW (l.take (i+1))=max (mW (l.take i)) (jA l[i])
 |t::r,0,_=>by simp[Jh,YD]
 |t::r,i+1,h=>by have a:=Ya (l:=r) (i:=i) (by simpa using h);rw[wg,Jh,a,wg,Jh];simp[Nat.max_assoc]
end Go.Am.Eu
namespace Go.Proofs.YtpeialehpoilbaaGreat
theorem F120:Z.f 120=O f120:=by kernel_rfl
theorem F44:Z.f 44=O f44:=by kernel_rfl
theorem at3(h:H)(a b:Nat):qt Z h #[3,3] 3 [J (a:Nat),J (b:Nat)] .max=.of (.v (J (max a b:Nat)) h):=by
 rw[avI]
 have:(if(a:Int)<(b:Int)then(b:Int)else a)=((max a b:Nat):Int):=by split<;>omega
 rw[this]
def Ll:yG:=z f44 [Y,Y,G,Y,G,G]
theorem akt:f44.body=O (zS (z f44 pF0) (zS (z f44 pF1) (zS (zS (z f44 [Y,Y,G,G]) (zv 0 (yb Ll))) (z f44 pT3)))):=rfl
section
variable{ev:zC->ag}{t:zA}{i n:Nat}{tm:Tr E}{h:H}(hh:h=dG t)(t1:aa tm 1 (pB 0))(t3:aa tm 3 (J (n:Nat)))(t4:aa tm 4 (J i))
include hh t1 t3 t4
theorem am2(b:∀x∈t.M,∀h,ev (aj 44 [D x] h)=.r (J (jA x:Nat)) h U)(d:i<I t.M)(c:i+1<=ao):
 aD (λa g=>g=dG t/\aa a 1 (pB 0)/\aa a 3 (J (max n (jA t.M[i]):Nat))/\aa a 4 (J (i+1:Nat))) ap bE
  (aF Z ev 44 Ll tm h):=by
 subst hh;have e:=dA c;simp at e;have j:=b t.M[i] (zW d);have f:=at3 (dG t) n (jA t.M[i]);simp at f;simp[Ll,z,f44,j,t1,t3,t4,d,e,f]
theorem apJ(d:I t.M<=i):
 aD ap ap (λj a c=>j=0/\c=dG t/\aa a 3 (J (n:Nat))) (aF Z ev 44 Ll tm h):=by
 subst hh;have b:¬i<I t.M:=by omega
 simp[Ll,z,f44,t1,t3,t4,b]
end
theorem abw:aJ Z prog 44 (λt=>wt t<ao) (λt=>[D t]) (λt=>J (jA t:Nat)):=by
 refine Td wt λt f b=>?_
 obtain⟨C,g,k⟩:∃C,aR Z prog C/\Has C 44 (λy=>wt y<wt t/\wt y<ao) (λy=>[D y]) (λy=>J (jA y:Nat)):=
  ⟨_,aZ aW b,Has.Ad λx y e=>by simp at e;rw[cf e]⟩
 have f:wt t<ao:=f;have w:=N1 t;have l:mW t.M<ao:=by have:=R1 t.M;have:=Se t.M;have:=rZ t;omega
 have d:=λn(x:zA)(c:x∈t.M) m=>k.ev (T:=Z) n (x:=x) ⟨EG c,by have:=EG c;omega⟩ m;refine ku (v:=J (jA t:Nat)) tok C g (.Cs (bg t) .Nl) bJ (I t.M+1) F44 akt rfl ?_
 have o:aD (λtm h=>h=dG t/\aa tm 1 (pB 0)) ap bE (aF Z (af Z C (I t.M+1+1)) 44 (z f44 pF0) (bF [D t] 0 .Nl) H.e):=by simp[z,f44,dG]
 have p:∀tm h,(h=dG t/\aa tm 1 (pB 0))->aD (λtm h=>h=dG t/\aa tm 1 (pB 0)/\aa tm 3 (J (0:Nat))) ap bE (aF Z (af Z C (I t.M+1+1)) 44 (z f44 pF1) tm h):=by rintro tm h ⟨rfl,t1⟩;simp[z,f44,t1]
 have r:∀tm h,(h=dG t/\aa tm 1 (pB 0)/\aa tm 3 (J (0:Nat)))->aD (λtm h=>h=dG t/\aa tm 1 (pB 0)/\aa tm 3 (J (0:Nat))/\aa tm 4 (J (0:Nat))) ap bE (aF Z (af Z C (I t.M+1+1)) 44 (z f44 [Y,Y,G,G]) tm h):=by rintro tm h ⟨rfl,t1,t3⟩;simp[z,f44,t1,t3]
 refine aS (o.Mo bT aP cS) λtm h q=>aS ((p tm h q).Mo bT aP cS) λtm h q=>
  aS (N':=λtm h=>tm.g 3=O (J (mW t.M:Nat))) (aS ((r tm h q).Mo bT aP cS) λtm h q=>?_) λtm h q=>?_
 .obtain⟨rfl,t1,t3,t4⟩:=q;refine fU 0 (λj tm h=>∃i:Nat,j=I t.M-i/\i<=I t.M/\h=dG t/\aa tm 1 (pB 0)/\aa tm 3 (J (mW (t.M.take i):Nat))/\aa tm 4 (J (i:Nat))) (I t.M) ⟨0,by omega,by omega,rfl,t1,by rw[List.take_zero,YD];exact t3,t4⟩ (by omega) ?_;rintro j tm h m ⟨i,rfl,A,rfl,t1,t3,t4⟩-;by_cases a:i<I t.M
  .refine(am2 rfl t1 t3 t4 (λx c s=>d m x c s) a (by omega)).Mo (λu B q=>⟨_,by omega,i+1,rfl,a,q.1,q.2.1,?_,q.2.2.2⟩) aP jr;rw[Ya a];exact q.2.2.1
  .refine(apJ rfl t1 t3 t4 (by omega)).Mo aP aP (λ_ _ _ q=>⟨q.1,?_⟩);rw[q.2.2,yI (by omega)]
 .have e:=dA (n:=mW t.M+1) (by omega);simp at e;rw[Zp];simp[z,f44,q,e]
def KV:yG:=z f120 [Y,Y,G,Y,G,G]
theorem aiw:f120.body=O (zS (z f120 pF0) (zS (z f120 pF1) (zS (zS (z f120 [Y,Y,G,G]) (zv 0 (yb KV))) (z f120 pT3)))):=rfl
structure av3(t:zA)(n i:Nat)(tm:Tr E)(h:H):Prop where
 base:h.b=0
 next:0<h.n
 t3:aa tm 3 (J (n:Nat))
 t7:aa tm 7 (al t.M)
 t8:aa tm 8 (J (I t.M:Nat))
 t9:aa tm 9 (J i)
section
variable{ev:zC->ag}{t:zA}{i n:Nat}{tm:Tr E}{h:H}(st:av3 t n i tm h)
include st
end
structure Pz(t:zA)(i:Nat)(tm:Tr E)(h:H):Prop where
 base:h.b=0
 next:0<h.n
 t3:∃x,aa tm 3 (J x)
 t7:aa tm 7 (al t.M)
 t8:aa tm 8 (J (I t.M:Nat))
 t9:aa tm 9 (J i)
section
variable{ev:zC->ag}{t:zA}{i:Nat}{tm:Tr E}{h:H}(st:Pz t i tm h)
include st
theorem aix(a:∃y,∀h,ev (aj 120 [D (t.M.getD i zT)] h)=.r (J y) h U)(e:i<I t.M)(b:i+1<=ao):
 aD (λc k=>Pz t (i+1) c k) ap bE (aF Z ev 120 KV tm h):=by
 let⟨f,hn,⟨x,t3⟩,t7,t8,t9⟩:=st;have g:=dA b;simp at g;let⟨y,j⟩:=a;have d:t.M.getD i zT=t.M[i]:=by simp[e]
 rw[d]at j;simp[KV,z,f120,j,f,t3,t7,t8,t9,e,g];exact⟨by simp[f],by simp,⟨_,by simp;rfl⟩,by simp[t7],by simp[t8],by simp⟩
theorem aku(c:I t.M<=i):aD ap ap (λj a d=>j=0/\∃x,aa a 3 (J x)) (aF Z ev 120 KV tm h):=by
 let⟨e,hn,⟨x,t3⟩,t7,t8,t9⟩:=st;have b:¬i<I t.M:=by omega
 simp[KV,z,f120,t3,t8,t9,b]
end
theorem aaC:∃f:zA->Int,aJ Z prog 120 (aI lP) (λt=>[D t]) (λt=>J (f t)):=by
 refine NT J zD λt k⟨f,c⟩=>?_
 obtain⟨C,l,n⟩:∃C,aR Z prog C/\Has C 120 (λy=>zD y<zD t/\aI lP y) (λy=>[D y]) (λy=>J (f y)):=
  ⟨_,aZ aW c,Has.Ad λx y e=>by simp at e;rw[cf e]⟩
 have u:I t.M<1000000:=k.here;refine CE tok C l (.Cs (bg t) .Nl) (λ_=>.Gd rfl) (I t.M+1) F120 aiw rfl ?_
 refine aS (N':=λtm h=>h=dG t/\aa tm 1 (pB 0)) ?_ λtm h⟨o,d⟩=>aS (N':=λtm h=>h=dG t/\aa tm 1 (pB 0)/\aa tm 3 (J 0)) ?_ λtm h⟨p,d,g⟩=>
  aS (N':=λtm h=>∃x,aa tm 3 (J x)) (aS (N':=λtm h=>Pz t 0 tm h) ?_ λtm h st=>?_) λtm h⟨x,g⟩=>?_
 .simp[z,f120,dG]
 .subst o;simp[z,f120,d]
 .subst p;simp[z,f120,d,dG];exact⟨by simp,by simp,⟨0,by simp[g]⟩,by simp,by simp,by simp⟩
 .refine fU 1 (λj tm h=>∃i:Nat,j=I t.M-i/\i<=I t.M/\Pz t i tm h) (I t.M) ⟨0,by omega,by omega,st⟩ (by omega) ?_;rintro j tm h m ⟨i,rfl,v,st⟩-;by_cases a:i<I t.M
  .have b:t.M[i]∈t.M:=zW a;refine(aix st ⟨f t.M[i],λr=>?_⟩ a (by unfold ao;omega)).Mo (λs w q=>⟨_,by omega,i+1,rfl,a,q⟩) aP jr;have:t.M.getD i zT=t.M[i]:=by simp[a]
   rw[this];exact n.ev (T:=Z) m (x:=t.M[i]) ⟨mg b,k.ld b⟩ r
  .exact(aku st (by omega)).Mo aP aP cS
 .simp[z,f120,g]
end Go.Proofs.YtpeialehpoilbaaGreat
namespace Go.Am.Eu
def aI.mono{p q:zA->Prop}(a:∀t,p t->q t){t:zA}(h:aI p t):aI q t:=by
 induction h with
 |mk h _ b=>exact .mk (a _ h) b
def AS(n:Nat)(l:List Int):List E:=l.map J++xI (n-I l) (J 0)
def am3{l:List Int}(h:I l<=n):I (AS n l)=n:=by simp[AS];omega
def am4{l:List Int}(h:I l<n)(x:Int):(AS n l).set (I l) (J x)=AS n (l++[x]):=by
 unfold AS;have e:n-I l=(n-(I l+1))+1:=by omega
 rw[tA _ _ (by simp),e,xj];simp
def akv{l:List Int}(h:I l=n):AS n l=l.map J:=by simp[AS,h]
end Go.Am.Eu
namespace Go.Proofs.YtpeialehpoilbaaGreat
def aI.ng{t:zA}(h:aI iu t):aI lP t:=h.mono λt h=>by have:=h.1;unfold lP;omega
def F104:Z.f 104=O f104:=by kernel_rfl
def zN3:jV Z 3=O [J 0]:=by kernel_rfl
def by3:(bytesOf Z 3).map (λb=>ze b 65536)=O Y:=by kernel_rfl
def mk3(h:H)(d:n<=65536):A7 Z h (O (zf 3)) (O (J n)) (O (J n))=.v (zL (pO h.n) n n) (h.w (ad (jK [J 0] n) 3)):=by
 show Rl Z h 3 n n (bytesOf Z 3)=_;have a:=by3;cases c:bytesOf Z 3 with
 |none=>rw[c]at a;cases a
 |some b=>
  rw[c]at a;simp at a;show GA h 3 n n b (jV Z 3)=_;rw[zN3];unfold GA;have e:ze n n=Y:=zb (zR n);have f:ze n 65536=Y:=zb d;have g:ze b 65536=Y:=zb a;simp only[e,f,g,cond_true];rfl
def at4:jK [J 0] n=xI n (J 0):=by
 rw[I3];induction n with
 |zero=>rfl
 |succ n a=>rw[xj,uC,a,xj];rfl
def am5{h:H}{b :Nat}{k:IntKind}(a:i<n):dI Z h (O (zf 3)) (O (zL (pO b) n m)) (O (.int k (i:Int)))=.v (zM (O ⟨b,i,U⟩)) h:=by show Jd h ⟨b,0,U⟩ i n (Am.zI Z 3)=_;rw[IG];show cond (ze (Nat.succ i) n) (aK.v (zM (O ((⟨b,0,U⟩:Addr).add (i*1)))) h) .f=_;rw[zb a,kT,xF,Nat.mul_one];rfl
def aiy{h:H}{l:List E}{x:Int}{g:Bool}(a:ae h k (K l s g))(c:i<I l):
 zG Z h 3 (J x) (zM (O ⟨k,i,U⟩))=O (h.p k (K (l.set i (J x)) s g)):=by
 have:=dY (T:=Z) (v:=J x) (n:=1) (off:=i) IG rfl rfl a (by omega);rw[this];have:l.take i++([J x]++l.drop (i+1))=l.set i (J x):=by rw[List.set_eq_take_append_cons_drop,if_pos c];rfl
 rw[show ah (J x)=[J x] from rfl,this]
def oA:yG:=z f104 [Y,Y,Y,Y,Y,G,Y,G,G]
def Ol:Array Oper:=bq (ak [Y,Y,G,G,Y] oA)
def Ez:Array Oper:=bq (z f104 pF8)
def ly:yG:=z f104 pT6
def aiz:f104.body=O (zS (z f104 pF0) (zS (z f104 pF1) (zS (z f104 pF2) (zS (z f104 pF3) (zS (z f104 pF4)
 (zS (zS (z f104 [Y,Y,Y,Y,Y,G,G]) (zv 0 (yb oA))) ly)))))):=rfl
def ahh:oA=zS (ak [G] oA) (zS (ak [Y,G] oA) (zS (zv 1 (zS (ak [Y,Y,G,G,G] oA) (yM 9 Ol Y))) (ak [Y,Y,Y] oA))):=rfl
def ahi:ly=zS (ak [G] ly) (zS (ak [Y,G] ly) (zS (yM 13 Ez Y) (zS (zS (ak [Y,Y,Y,G,G] ly) (ak [Y,Y,Y,G,Y] ly)) (ak [Y,Y,Y,Y] ly)))):=rfl
abbrev gY:List zc:=lK 136 [pB 3,pB 4]
structure Un(t:zA)(vs:List zA)(l:List Int)(tm:Tr E)(h:H):Prop where
 base:h.b=0
 next:8<=h.n
 g0:ae h 0 (ad (ah (D t)) 31)
 g1:ae h 1 (ad [al vs] 29)
 g2:ae h 2 (ad [J 0] 3)
 g3:ae h 3 (ad z5 31)
 g4:ae h 4 (ad [J 0] 52)
 g5:ae h 5 (ad [bK 138 [pB 2,pB 1]] 210)
 g6:ae h 6 (ad (AS (I vs) l) 3)
 g7:ae h 7 (ad [zL (pO 6) (I vs) (I vs)] 66)
 le:I l<=I vs
 t3:aa tm 3 (pB 0)
 t4:aa tm 4 (pB 1)
 t5:aa tm 5 (pB 2)
 t6:aa tm 6 (pB 3)
 t7:aa tm 7 (pB 4)
 t8:aa tm 8 (pB 5)
 t9:aa tm 9 (pB 7)
structure Cd(t:zA)(vs:List zA)(l:List Int)(k:Nat)(tm:Tr E)(h:H):Prop extends Un t vs l tm h where
 t21:aa tm 21 (al vs)
 t22:aa tm 22 (J (I vs:Nat))
 t23:aa tm 23 (J (k:Nat))
section
variable{ev:zC->ag}{t:zA}{vs:List zA}{l:List Int}{tm:Tr E}{h:H}
def apK(p:Cd t vs l (I l) tm h)(e:I l<I vs)(L:n+1=h.n)(r:8<=n)(f:ae h n (ad (ah (D vs[I l])) 31))(g:aa tm 10 (J (I l:Nat)))(i:aa tm 11 (pB n))
 (a:∀m,ev (aj 119 [D vs[I l]] m)=.r (J c) m U):
 ay (js gY (Cd t vs (l++[c]) (I l))) ca ap ap (jN Z ev ⟨104,U⟩ Ol Y ⟨tm,gY,h,U⟩):=by
 let⟨⟨o,hn,g0,g1,g2,g3,g4,g5,g6,g7,j,t3,t4,t5,t6,t7,t8,t9⟩,t21,t22,t23⟩:=p;rw[dJ];generalize bj Ol.toList 0 .Nl=M;have u:6<h.n:=by omega
 have v:7<h.n:=by omega
 have w:n<h.n:=by omega
 have y:¬n=6:=by omega
 have d:¬6=n:=by omega
 have A:¬n=7:=by omega
 have C:=λ(h:H)=>am5 (h:=h) (b:=6) (m:=I vs) (k:=zx) e;have s:=λ(F:H)(q:ae F 6 (ad (AS (I vs) l) 3))=>aiy (x:=c) q (by rw[am3 j];exact e);simp[Ol,bq,oA,z,f104,t9,g,i,o,g6,g7,f,u,v,w,a,C,s,Qe,cV,cY,cZ,dc,dt,cO,cR,d];refine .mk ⟨⟨by simp[o],by simpa using hn,by simp[g0],by simp[g1],by simp[g2],by simp[g3],by simp[g4],by simp[g5],?_,by simp[g7],by simp;omega,by simp[t3],by simp[t4],by simp[t5],by simp[t6],by simp[t7],by simp[t8],by simp[t9]⟩,by simp[t21],by simp[t22],by simp[t23]⟩;simp[am4 e]
def akw(e:Cd t vs l (I l) tm h)(i:I l<I vs)(p:I l+1<=ao)(f:∀m,ev (aj 119 [D vs[I l]] m)=.r (J c) m U):
 ay (js gY (Cd t vs (l++[c]) (I (l++[c])))) ca ap ap (aw Z ev ⟨104,U⟩ oA ⟨tm,gY,h,U⟩):=by
 have o:=dA p;simp at o;rw[ahh];let⟨⟨j,hn,g0,g1,g2,g3,g4,g5,g6,g7,hle,t3,t4,t5,t6,t7,t8,t9⟩,t21,t22,t23⟩:=e;refine qq (df:=gY) (Q0:=λa d=>a=tm.s 24 (zP Y)/\d=h) ?_ λg q⟨k,n⟩=>?_
 .simp[oA,z,f104,t22,t23,i];exact .mk ⟨rfl,rfl⟩
 subst k;subst n;refine qq (df:=gY) (Q0:=λa d=>a=tm.s 24 (zP Y)/\d=q) ?_ λg b⟨k,n⟩=>?_
 .simp[oA,z,f104,an];exact .mk ⟨rfl,rfl⟩
 subst k;subst n;refine qq (df:=gY) (Q0:=Cd t vs (l++[c]) (I l)) ?_ λg L e=>?_
 .rw[hU];refine mM (qq (df:=gY) (Q0:=λa d=>Cd t vs l (I l) a d/\d.n=b.n+1/\ae d b.n (ad (ah (D vs[I l])) 31)/\aa a 10 (J (I l:Nat))/\aa a 11 (pB b.n)) ?_ λa d⟨e,r,s,u,v⟩=>?_)
  .have w:¬0=b.n:=by omega
   have x:¬1=b.n:=by omega
   have y:¬2=b.n:=by omega
   have A:¬3=b.n:=by omega
   have B:¬4=b.n:=by omega
   have C:¬5=b.n:=by omega
   have F:¬6=b.n:=by omega
   have H:¬7=b.n:=by omega
   simp[oA,z,f104,t21,t23,i];exact .mk ⟨⟨⟨by simp[j],by simp;omega,by simp[w,g0],by simp[x,g1],by simp[y,g2],by simp[A,g3],by simp[B,g4],by simp[C,g5],by simp[F,g6],by simp[H,g7],hle,by simp[t3],by simp[t4],by simp[t5],by simp[t6],by simp[t7],by simp[t8],by simp[t9]⟩,by simp[t21],by simp[t22],by simp[t23]⟩,by simp,by simp,by simp,by simp⟩
  .rw[eg];exact(apK e i r.symm hn s u v f).Mo fP dN aP aP
 .let⟨⟨j,hn,g0,g1,g2,g3,g4,g5,g6,g7,hle,t3,t4,t5,t6,t7,t8,t9⟩,t21,t22,t23⟩:=e;simp[oA,z,f104,t23,o];exact .mk ⟨⟨j,hn,g0,g1,g2,g3,g4,g5,g6,g7,hle,by simp[t3],by simp[t4],by simp[t5],by simp[t6],by simp[t7],by simp[t8],by simp[t9]⟩,by simp[t21],by simp[t22],by simp⟩
def am6(b:Cd t vs l (I l) tm h)(d:I vs<=I l):
 ay ca ca (λj s=>j=0/\js gY (Un t vs l) s) ap (aw Z ev ⟨104,U⟩ oA ⟨tm,gY,h,U⟩):=by
 let⟨⟨c,hn,g0,g1,g2,g3,g4,g5,g6,g7,hle,t3,t4,t5,t6,t7,t8,t9⟩,t21,t22,t23⟩:=b;have a:¬I l<I vs:=by omega
 simp[oA,z,f104,t22,t23,a,an];exact .mk ⟨c,hn,g0,g1,g2,g3,g4,g5,g6,g7,hle,by simp[t3],by simp[t4],by simp[t5],by simp[t6],by simp[t7],by simp[t8],by simp[t9]⟩
end
end Go.Proofs.YtpeialehpoilbaaGreat
namespace Go.Am.Eu
def ar5{l:List Int}{gr:Bool}(a:n=I l)(c:B m=O (K (l.map J) 3 gr)):BV B k (CW l) (zL (pO m) n n):=by
 subst a;have d:∀l:List Int,BL B k (l.map J) (l.map J):=λl=>BL.pure (map_pure (λ_=>.Gd rfl) l)
 have e:∀l:List Int,(l.map J).flatMap ah=l.map J:=by
  intro l;induction l with
  |nil=>rfl
  |cons x l f=>simp only[xK,List.flatMap_cons];rw[f];rfl
 have e:=e l;exact .slice (pre:=[]) (es:=l.map J) (post:=[]) (sz:=1) (by rw[e];simpa using c) rfl (by simp) (by simp) (zR _) (d l)
end Go.Am.Eu
namespace Go.Proofs.YtpeialehpoilbaaGreat
@[simp] theorem aIZ:zero Z 213=O (aAg [J 0]):=by kernel_rfl
@[simp] theorem aI0:zero Z 211=O (zM U):=by kernel_rfl
def ar6{h:H}:eK Z h 213 (O (aAg [J 0])) (O [])=.v (aAg [J 0]) h:=by kernel_rfl
def at5:Am.zI Z 211=O 1:=by kernel_rfl
def at6{h:H}{B:Nat}{g:Bool}(a:ae h k (K [N] s g)):zG Z h 211 (pB B) (pB k)=O (h.p k (K [pB B] s g)):=by rw[dY (v:=pB B) (n:=1) (off:=0) at5 rfl rfl a (by show 1<=1;omega)];rfl
structure Uc(t:zA)(vs:List zA)(l:List Int)(Kk:Nat)(c:Int)(tm:Tr E)(h:H):Prop extends Un t vs l tm h where
 k8:8<=Kk
 nK:h.n=Kk+2
 gK:ae h Kk (ad [J c] 213)
 gP:ae h (Kk+1) (ad [pB Kk] 211)
 t12:aa tm 12 (pB (Kk+1))
section
variable{ev:zC->ag}{t:zA}{vs:List zA}{l:List Int}{tm:Tr E}{h:H}
def am7(b:Un t vs l tm h):ay (js gY (Uc t vs l h.n 0)) ca ap ap (aw Z ev ⟨104,U⟩ (ak [G] ly) ⟨tm,gY,h,U⟩):=by
 let⟨c,hn,g0,g1,g2,g3,g4,g5,g6,g7,hle,t3,t4,t5,t6,t7,t8,t9⟩:=b;have d:¬0=h.n:=by omega
 have e:¬1=h.n:=by omega
 have f:¬2=h.n:=by omega
 have g:¬3=h.n:=by omega
 have i:¬4=h.n:=by omega
 have j:¬5=h.n:=by omega
 have k:¬6=h.n:=by omega
 have m:¬7=h.n:=by omega
 have a:¬h.n=0:=by omega
 have x:¬0=h.n+1:=by omega
 have y:¬1=h.n+1:=by omega
 have n:¬2=h.n+1:=by omega
 have o:¬3=h.n+1:=by omega
 have p:¬4=h.n+1:=by omega
 have r:¬5=h.n+1:=by omega
 have u:¬6=h.n+1:=by omega
 have v:¬7=h.n+1:=by omega
 have s:=λ(w:H)(q:ae w (h.n+1) (ad [zM U] 211))=>at6 (B:=h.n) q;simp[ly,z,f104,ar6,s];exact .mk ⟨⟨by simp[c],by simp;omega,by simp[d,g0],by simp[e,a,g1],by simp[f,n,g2],by simp[g,o,g3],by simp[i,p,g4],by simp[j,r,g5],by simp[k,u,g6],by simp[m,v,g7],hle,by simp[t3],by simp[t4],by simp[t5],by simp[t6],by simp[t7],by simp[t8],by simp[t9]⟩,hn,by simp,by simp,by simp,by simp⟩
def Uc.bl(d:Uc t vs l n c tm h)(b:I l=I vs):BL (na h n) n (BO 0 vs l 0 ((t,0),0)) [aAg [bK 139 [zM (O ⟨5,0,U⟩),zM (O ⟨n+1,0,U⟩),zM (O ⟨7,0,U⟩)]],D t,J 0]:=by
 let⟨⟨e,hn,g0,g1,g2,g3,g4,g5,g6,g7,hle,t3,t4,t5,t6,t7,t8,t9⟩,k8,nK,gK,gP,t12⟩:=d
 have a:∀j,¬j=n->na h n j=h.g j:=λj g=>by unfold na lI;rw[if_neg g,e,if_pos (Nat.zero_le _)]
 refine .cons (.agg (.cons (.func 139 (.cons ?_ (.cons ?_ (.cons ?_ .nil)))) .nil)) (.cons (.pure (bg t)) (.cons (.pure (.Gd rfl)) .nil))
 .refine .box (pre:=[]) (post:=[]) (x:=bK 138 [zM (O ⟨2,0,U⟩),zM (O ⟨1,0,U⟩)]) (f:=0) (by rw[a 5 (by omega)];exact g5) rfl (.func 138 (.cons ?_ (.cons ?_ .nil)))
  .exact .box (pre:=[]) (post:=[]) (x:=J 0) (f:=0) (by rw[a 2 (by omega)];exact g2) rfl (.pure (.Gd rfl))
  .exact .box (pre:=[]) (post:=[]) (x:=al vs) (f:=0) (by rw[a 1 (by omega)];exact g1) rfl (.pure (fb vs))
 .exact .box (pre:=[]) (post:=[]) (x:=zM (O ⟨n,0,U⟩)) (f:=0) (by rw[a (n+1) (by omega)];exact gP) rfl (.AK 0)
 .refine .box (pre:=[]) (post:=[]) (x:=zL (O ⟨6,0,U⟩) (I vs) (I vs)) (f:=0) (by rw[a 7 (by omega)];exact g7) rfl (ar5 b.symm (gr:=G) ?_);rw[a 6 (by omega),g6,akv b]
def Uc.men(a:Uc t vs l n c tm h):∃v∈[Value.agg ⟨[bK 139 [pB 5,pB (n+1),pB 7]]⟩,D t,J 0],pp (na h n) n v:=by refine⟨_,.head _,.agg (.head _) (.cap 139 (v:=pB (n+1)) (by simp) (.box (c:=[pB n]) (e:=211) (gr:=G) ?_ (.head _) (.ptr 0)))⟩;unfold na lI;rw[if_neg (by omega),a.base,if_pos (Nat.zero_le _)];exact a.gP
def ana{c2:Int}{r:Except Int zA}(p:Uc t vs l n c tm h)(b:ev (aj 141 [aAg [bK 139 [pB 5,pB (n+1),pB 7]],D t,J 0] h)=(dg r).Ld (h.p n (ad [J c2] 213))):
 ay (js gY λtm h=>(∃u,r=.ok u)/\Uc t vs l n c2 tm h) ca ap (λq s=>∃a,r=yZ a/\q=[⟨cL a,G,G⟩]/\js gY (Uc t vs l n c2) s) (aw Z ev ⟨104,U⟩ (ak [Y,G] ly) ⟨tm,gY,h,U⟩):=by
 let⟨⟨d,hn,g0,g1,g2,g3,g4,g5,g6,g7,hle,t3,t4,t5,t6,t7,t8,t9⟩,k8,nK,gK,gP,t12⟩:=p;have e:¬0=n:=by omega
 have f:¬1=n:=by omega
 have g:¬2=n:=by omega
 have i:¬3=n:=by omega
 have j:¬4=n:=by omega
 have k:¬5=n:=by omega
 have m:¬6=n:=by omega
 have o:¬7=n:=by omega
 cases r with
 |ok u=>
  have b:ev (aj 141 [aAg [bK 139 [pB 5,pB (n+1),pB 7]],D t,J 0] h)=.any (h.p n (ad [J c2] 213)) U:=b;simp[ly,z,f104,t3,t8,t9,t12,d,g0,Oh,b];exact .mk ⟨⟨by simp[d],by simpa using hn,by simp[e,g0],by simp[f,g1],by simp[g,g2],by simp[i,g3],by simp[j,g4],by simp[k,g5],by simp[m,g6],by simp[o,g7],hle,by simp[t3],by simp[t4],by simp[t5],by simp[t6],by simp[t7],by simp[t8],by simp[t9]⟩,k8,by simp[nK],by simp,by simp[gP],by simp[t12]⟩
 |error a=>
  have b:ev (aj 141 [aAg [bK 139 [pB 5,pB (n+1),pB 7]],D t,J 0] h)=.p [⟨cL a,G,G⟩] (h.p n (ad [J c2] 213)) U:=b;simp[ly,z,f104,t3,t8,t9,t12,d,g0,Oh,b];exact .mk ⟨⟨by simp[d],by simpa using hn,by simp[e,g0],by simp[f,g1],by simp[g,g2],by simp[i,g3],by simp[j,g4],by simp[k,g5],by simp[m,g6],by simp[o,g7],hle,by simp[t3],by simp[t4],by simp[t5],by simp[t6],by simp[t7],by simp[t8],by simp[t9]⟩,k8,by simp[nK],by simp,by simp[gP],by simp[t12]⟩
end
end Go.Proofs.YtpeialehpoilbaaGreat
namespace Go.Am.Eu
def adR:List E->Nat
 |.agg ⟨[zU _ _ ⟨[_,zM (O ⟨b,_,_⟩),_]⟩]⟩::_=>b-1
 |_=>0
end Go.Am.Eu
namespace Go.Proofs.YtpeialehpoilbaaGreat
def HC:Tr Nat:=bj Ez.toList 0 .Nl
def anb:(aN (aE HC 3) 1&&aN (aE HC 4) 3&&aN (aE HC 4) 1&&aN (aE HC 4) 2)=Y:=by kernel_rfl
def ar7:dV (bitsOf [5,1,2]) (bit 0)=Y:=by decide
structure Ur(u:E)(tm:Tr E)(h:H):Prop where
 base:h.b=0
 g3:h.g 3=O (K (ah u) 31 G)
 g4:h.g 4=O (K [J 0] 52 G)
 t6:tm.g 6=O (zM (O ⟨3,0,U⟩))
 t7:tm.g 7=O (zM (O ⟨4,0,U⟩))
def TM{tm:Tr E}{h:H}{c:List E}(b:h.b=0)(d:ae h 3 (ad c 31))(f:I c=5)(g:ae h 4 (ad [J e] 52))(i:aa tm 6 (pB 3))(j:aa tm 7 (pB 4)):
 fw U (Am.zJ Z tm [yB 6 31,yB 7 52] h)=.r (aTu [aAg c,J e]) h U:=by
 have a:=fh f;simp[i,j,b,d,g,a];rfl
section
variable{C:aV}{n:Nat}{t:zA}{vs:List zA}{l:List Int}{tm:Tr E}{h:H}
def anc{r:Except Int zA}(st:Uc t vs l j c tm h)(hp:∀u,r=.ok u->True)
 (d:V (aj 142 [bK 143 [zM (O ⟨5,0,U⟩),zM (O ⟨1,0,U⟩),zM (O ⟨2,0,U⟩)]] h)=.r (nU 143 [ar (pS 0 vs) 0,ar (al vs) 0,ar (J 0) 0]) (h.bx [5,1,2]) U)
 (b:V (aj 142 [bK 143 [zM (O ⟨5,0,U⟩),zM (O ⟨1,0,U⟩),zM (O ⟨2,0,U⟩)]] h.f)=.r (nU 143 [ar (pS 0 vs) 0,ar (al vs) 0,ar (J 0) 0]) (h.f.bx [5,1,2]) U)
 (a:∀m,V (aj 141 [nU 143 [ar (pS 0 vs) 0,ar (al vs) 0,ar (J 0) 0],D t,J 0] m)=(dg r).bi m):
 ay (js gY λtm h=>∃u,r=.ok u/\Ur (D u) tm h) (λ_=>False) (λ_ _=>False) (λch s=>∃e,r=yZ e/\ch=[⟨cL e,G,G⟩]/\js gY (Ur (aAg z5)) s) (jN Z V ⟨104,U⟩ Ez Y ⟨tm,gY,h,U⟩):=by
 obtain⟨⟨f,hn,L,M,N,o,P,g5,g6,g7,hle,Q,R,T,g,W,X,t9⟩,k8,nK,gK,gP,t12⟩:=st;rw[dJ];have bo:=anb;simp only[zX]at bo;obtain⟨⟨⟨v,w⟩,y⟩,A⟩:=bo;have e:bj Ez.toList 0 .Nl=HC:=rfl;rw[e];generalize HC=bs at*;have d1:=ar7;have l0:0<h.n:=by omega
 have l3:3<h.n:=by omega
 obtain⟨k1,n,_,_⟩:=rI f [5,1,2];have k0:(h.bx [5,1,2]).g 0=h.g 0:=kQ (by decide);have B:(h.bx [5,1,2]).g 3=h.g 3:=kQ (by decide);have k4:(h.bx [5,1,2]).g 4=h.g 4:=kQ (by decide)
 have dd:∀(i:Nat)(k:List aG->S->ag)(tm:Tr E)(C:List zc)(F:Option (List zO)),gG k bs [] i tm C h F (h.f.bx [5,1,2])=k [⟨i,bitsOf [5,1,2],bitsOf [5,1,2]⟩] ⟨tm,C,h.bx [5,1,2],F⟩:=
  λi k tm C F=>YB f (λx hx=>by simp at hx;omega) rfl
 have s:=λ(h0:H)(u:zA)(q:h0.g 3=O (K z5 31 G))=>fp (c:=tc u) rfl (EE u) q rfl;cases r with
 |ok u=>
  have a:∀m,V (aj 141 [nU 143 [ar (pS 0 vs) 0,ar (al vs) 0,ar (J 0) 0],D t,J 0] m)=.r (D u) m U:=a;simp[Ez,bq,ly,z,ak,sub,f104,Q,R,T,g,X,f,L,M,N,o,k1,n,k0,B,l0,l3,d,b,a,dd,A9,cV,cY,cZ,dc,d1,cO,cR,y,A];exact .mk ⟨by simp[n],by simp,by simp[k4,P],by simp[g],by simp[W]⟩
 |error er=>
  have a:∀m,V (aj 141 [nU 143 [ar (pS 0 vs) 0,ar (al vs) 0,ar (J 0) 0],D t,J 0] m)=.p [⟨cL er,G,G⟩] m U:=a;have am:=λ(x:aG)(l:List aG)(q:aN (aE bs 3) x.i=Y)=>qo (p:=3) x l (.inr q);simp[Ez,bq,ly,z,ak,sub,f104,Q,R,T,g,X,f,L,M,N,o,k1,n,k0,B,l0,l3,d,b,a,dd,A9,cV,cY,cZ,dc,d1,cO,cR,v,w,ol,rM,am];exact .mk ⟨n,by rw[B];exact o,by rw[k4];exact P,by simp[g],by simp[W]⟩
def ane(i:C 136=λ_ _=>U)(l:Ur (D a) tm h){dp:zA->Int}(b:∀m,af Z C (n+3) (aj 120 [D a] m)=.r (J (dp a)) m U)(o:v=aTu [D (if 200<dp a then zT else a),J (if 200<dp a then 7 else 0)]):
 ay (o3 Z (af Z C (n+2)) [yB 6 31,yB 7 52] 136 [pB 3,pB 4] v) (o3 Z (af Z C (n+2)) [yB 6 31,yB 7 52] 136 [pB 3,pB 4] v) ap
  (CU Z (af Z C (n+2)) [yB 6 31,yB 7 52] 136 [pB 3,pB 4] v) (aw Z (af Z C (n+3)) ⟨104,U⟩ (zS (zS (ak [Y,Y,Y,G,G] ly) (ak [Y,Y,Y,G,Y] ly)) (ak [Y,Y,Y,Y] ly)) ⟨tm,gY,h,U⟩):=by
 let⟨g,g3,g4,t6,t7⟩:=l;subst o;have p:=fh (c:=z5) rfl;have s:=λ(f:H)(q:ae f 3 (ad (ah (D a)) 31))=>fp (c:=z5) rfl rfl q (by rw[dP];rfl);have r:=λ(f:H)(q:ae f 3 (ad (ah (D a)) 31))=>fp (c:=tc a) rfl (EE a) q (by rw[dP];rfl);have j:=λ(f:H)(n:Int)(q:ae f 4 (ad [J 0] 52))=>qF (n:=n) q;by_cases k:200<dp a
 .simp[ly,z,f104,t6,t7,g,g3,g4,b,k,an,jn,s,j];refine⟨rfl,rfl,_,_,_,_,abt i,TM (c:=z5) (e:=7) (by simp[g]) (by simp) rfl (by simp) (by simp[t6]) (by simp[t7]),?_⟩;exact .Tt (.Cs (rS _) ka)
 .simp[ly,z,f104,t6,t7,g,g3,g4,b,k,an,j];refine⟨rfl,rfl,_,_,_,_,abt i,TM (c:=tc a) (e:=0) (by simp[g]) (by simp[dP]) rfl (by simp) (by simp[t6]) (by simp[t7]),?_⟩;rw[show aAg (tc a)=D a from (eD a).symm];exact .Tt (.Cs (.Pu (bg a)) ka)
def aaD(b:Has C 137 (λ_:Int=>True) (λe=>[cL e]) (λe=>J e))(d:h.b=0)(f:ae h 3 (ad p 31))(g:I p=5)(i:ae h 4 (ad [J 0] 52))(j:aa tm 6 (pB 3))(k:aa tm 7 (pB 4)):
 CU Z (af Z C (n+2)) [yB 6 31,yB 7 52] 136 [pB 3,pB 4] (aTu [D zT,J e]) [⟨cL e,G,G⟩] ⟨tm,gY,h,U⟩:=by
 have a:=fh (c:=z5) rfl;refine⟨rfl,rfl,_,_,_,_,_,apv b d f g i (by decide),rfl,TM (c:=z5) (e:=e) (by simp[d]) (by simp) rfl (by simp) j k,?_⟩;exact .Tt (.Cs (rS _) ka)
end
end Go.Proofs.YtpeialehpoilbaaGreat
