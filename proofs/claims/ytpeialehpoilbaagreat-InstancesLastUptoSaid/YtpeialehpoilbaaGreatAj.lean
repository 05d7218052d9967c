/- A part of the proof of InstancesLastUptoSaid: see the last text. -/
import Derived.Test.YtpeialehpoilbaaGreatAi
import Derived.Test.YtpeialehpoilbaaGreatAf
import Derived.Test.YtpeialehpoilbaaGreatAg
import Derived.Test.YtpeialehpoilbaaGreatAd
set_option linter.all false
noncomputable section
set_option maxRecDepth 100000
open Bool renaming false->G,true->Y,and_eq_false_imp->tB,and_eq_true->zX
open Go.Am.ai renaming cells->K
open Go.IntKind renaming bits->xJ,i64->zx,signed->y9,wrap->xQ
open Go renaming Value->E,Program->zo,TypeId->zQ,FuncId->zZ
open Go.Value renaming agg->yu,bool->zP,func->zU,string->zN,slice->zL,pointer->zM
open List renaming drop_zero->yY,getElem_mem->zW,length->I,take_of_length_le->yI,append_nil->ye,getElem?_eq_getElem->zm,length_cons->yo,take_add_one->tu,length_take->wV,map_append->xn,map_cons->xK,mem_cons->zp,mem_iff_getElem->yk,sum_append->sZ,head_eq_of_cons_eq->ue
open Nat renaming not_lt_zero->x9,add->zl,beq->zV,ble->ze,ble_eq_true_of_le->zb,le_of_ble_eq_true->wb,le_refl->zR,mul->z7,zero_le->ya,le_of_lt->v9,lt_succ_self->yL,lt_of_le_of_lt->xN,lor->zi
open Option renaming none->U,some->O
open Or renaming inl->zq,inr->zt
open Go.TypeDesc renaming slice->zf
open Prod renaming fst->tO
open Int renaming le_refl->xW
open Array renaming getElem?_eq_some_iff->zd
open Classical renaming choose->yE,choose_spec->zk
open Go.Fn renaming func->za
open Go Go.Am Go.Proofs Go.Am.Sym Go.Am.Eu
open Go.Proofs.Tryz
variable{n k m i j:Nat}
variable{A:Type}
variable{a d:Go.Am.Eu.zA}
variable{c e:Int}
variable{h g:Go.Am.H}
variable{v N:Go.Value}
variable{r q:Go.Am.Tr Go.Value}
variable{C:Go.Am.aV}
variable{x:Go.Code}
variable{t s:Go.TypeId}
variable{y:List Go.Am.Eu.zA}
variable{f:Go.FuncId}
variable{R:A->List Go.Value}
variable{L:A->Prop}
variable{l p:List Go.Value}
variable{u:Go.Am.M}
variable{B:Nat->Option Go.Am.ai}
variable{o:Option (List Go.PanicEntry)}
variable{X:List Go.Deferred}
namespace Go.Proofs.YtpeialehpoilbaaGreat
def F105:Z.f 105=O f105:=by kernel_rfl
def F147:Z.f 147=O f147:=by kernel_rfl
def F106:Z.f 106=O f106:=by kernel_rfl
def F82:Z.f 82=O f82:=by kernel_rfl
def F83:Z.f 83=O f83:=by kernel_rfl
def Ep(f:A->E)(l:List A):dj (cp (l.map f) 0 (I l) [])=cp (l.map f) 0 (I l) []:=by show zU (.via 0 #[] (I l) G) ⟨((l.map f).drop 0).take (I l)⟩ ⟨[]⟩=_;rw[yY,yI (by simp)]
def Sh(f:A->E)(l:List A)(a:k<=I l):dj (cp (l.map f) 0 k [])=cp ((l.take k).map f) 0 (I (l.take k)) []:=by
 show zU (.via 0 #[] k G) ⟨((l.map f).drop 0).take k⟩ ⟨[]⟩=_;have:I (l.take k)=k:=by simp;omega
 rw[yY,<-List.map_take,this]
@[simp] theorem ave:(tc a).map dj=tc a:=by show[J a.w,J a.Q,zN a.F,dj (cp (a.H.map aT) 0 (I a.H) []),dj (cp (a.M.map D) 0 (I a.M) [])]=_;rw[Ep,Ep];rfl
@[simp] theorem aIz:fO (D a)=D a:=by rw[eD];show yu ⟨(tc a).map dj⟩=_;rw[ave]
@[simp] theorem aIA:fO (aAg z5)=D zT:=rfl
@[simp] theorem aIb{s:ByteArray}:fO (zN s)=zN s:=rfl
@[simp] theorem aIc{k:IntKind}:fO (.int k c)=.int k c:=rfl
@[simp] theorem aHs(f:A->E)(l:List A):fO (eb f l)=eb f l:=Ep f l
theorem aot:∃f:List aB->Bool,aJ Z prog 34 (λ_=>True) (λl=>[aO l,aO []]) (λx=>zP (f x)):=by
 refine qi zP λl _=>?_
 refine(jq (T:=Z) (Q:=λ_=>True) tok cg aW (.Cs (jM l) (.Cs (jM _) .Nl)) (λ_=>.Gd rfl) 5 F34 rfl rfl ?_).imp λ_ h=>h.2
 cases l with
 |cons a l=>
  have e:¬((I l:Int)+1=0):=by omega
  simp[bC F34,f34,e]
 |nil=>
  simp[bC F34,f34]
  refine forA 0 0 (λi b h=>b.g 0=O (aO [])/\aa b 5 (J 0)) ⟨by simp,by simp⟩ (by omega) (by omega) (λi _ _ _ h=>absurd h (x9 i)) ?_
  rintro b h m ⟨c,d⟩-
  simp[c,d]
def avf:dX λl:List aB=>[aO l,aO []]:=λx y e=>by simp at e;exact qy e
def Ts:∃f:zA->Bool,aJ Z prog 11 (λ_=>True) (λt=>[D t,D zT]) (λx=>zP (f x)):=by
 let⟨f,o⟩:=aot;let⟨C,p,d⟩:=Dp o avf;refine qi zP λt _=>?_;refine(jq (T:=Z) (Q:=λ_=>True) tok C p (.Cs (bg t) (.Cs (bg _) .Nl)) (λ_=>.Gd rfl) 5 F11 rfl rfl ?_).imp λ_ h=>h.2;have d:=λn m=>d n t.H m trivial;have b:zT.w=0:=rfl;have c:zT.Q=0:=rfl;have e:zT.F=⟨#[]⟩:=rfl;have j:zT.H=[]:=rfl;have k:zT.M=[]:=rfl;generalize zT=a at b c e j k;by_cases c1:t.w=0;case neg=>simp[bC F11,f11,c1,b]
 by_cases g:t.Q=0;case neg=>simp[bC F11,f11,c1,g,b,c]
 by_cases c3:t.F=⟨#[]⟩;case neg=>simp[bC F11,f11,c1,g,c3,b,c,e]
 cases c4:f t.H
 .simp[bC F11,f11,c1,g,c3,c4,d,b,c,e,j]
 by_cases c5:I t.M=0;case neg=>simp[bC F11,f11,c1,g,c3,c4,c5,d,b,c,e,j,k]
 simp[bC F11,f11,c1,g,c3,c4,c5,d,b,c,e,j,k];refine forA 0 0 (λi l h=>h=(H.e.w (ad (ah (D t)) 31)).w (ad (ah (D a)) 31)/\aa l 2 (pB 0)/\aa l 5 (J 0)) ⟨rfl,by simp,by simp⟩ (by omega) (by omega) (λi _ _ _ h=>absurd h (x9 i)) ?_;rintro l h m ⟨rfl,q,r⟩-;simp[q,r,c5]
theorem W1:dX λt:zA=>[D t,D zT]:=λx y e=>by simp at e;exact cf e
def abN:∃f:zA->Bool,aJ Z prog 105 (λ_=>True) (λt=>[D t]) (λx=>zP (f x)):=by let⟨f,b⟩:=Ts;let⟨C,c,a⟩:=ad8 b W1;refine qi zP λt _=>(jq (T:=Z) (Q:=λ_=>True) tok C c (.Cs (bg t) .Nl) (λ_=>.Gd rfl) 5 F105 rfl rfl ?_).imp λ_ h=>h.2;have a:=λn m=>a t trivial [D t,aAg z5] (by simp) n m;simp[bC F105,f105,a,jn]
def aji:∃f:zA->Int,aJ Z prog 147 (λt=>wt t<bz) (λt=>[D t]) (λx=>J (f x))/\∀t,wt t<bz->f t<=zD t:=by
 refine iC J (λ(t:zA) v=>v<=zD t) λt p=>?_;have r:=Em t;unfold bz at p;refine jq (T:=Z) tok cg aW (.Cs (bg t) .Nl) (λ_=>.Gd rfl) 5000000 F147 rfl rfl ?_;simp[bC F147,f147];refine acE 0 (λj c h=>∃(u:zA)(n:Nat),j=zD u/\n+zD u<=zD t/\h.b=0/\ae h 0 (ad (ah (D u)) 31)/\aa c 1 (pB 0)/\aa c 3 (J n)) (zD t) ⟨t,0,rfl,by omega,by simp,by simp,by simp,by simp⟩ (by omega) ?_;rintro j c h m ⟨u,n,rfl,s,d,e,g,i⟩-;by_cases c1:u.w=6;case neg=>simp[d,e,g,i,c1];omega
 by_cases l:I u.M=2;case neg=>simp[d,e,g,i,c1,l];omega
 let⟨a,b,o⟩:=SA l;have q:zx.wrap ((n:Int)+1)=(n:Int)+1:=by simp[xQ,xJ,y9];omega
 have k:=mg (t:=u) (x:=b) (by rw[o];simp);simp[d,e,g,i,c1,o,q];exact⟨_,k,b,rfl,n+1,by omega,rfl,by omega⟩
theorem aou:∃f:zB->Bool,aJ Z prog 106 (λd=>dH d<bz) (λd=>[bI d]) (λx=>zP (f x))/\∀d,dH d<bz->f d=Y->d.f<=zD d.t:=by
 refine iC zP (λ(d:zB) v=>v=Y->d.f<=zD d.t) λd r=>?_
 let⟨f,s,k⟩:=aji
 let⟨C,t,c⟩:=Dp s DN
 have w:=qP d
 have y:=EA d.aY
 unfold bz at r
 have u:=λn m=>c n d.t m (by show _<2097152;omega)
 have k:=k d.t (by show _<2097152;omega)
 refine jq (T:=Z) tok C t (.Cs (kM d) .Nl) (λ_=>.Gd rfl) 5000000 F106 rfl rfl ?_
 simp[bC F106,f106,u]
 refine forA (I d.aY) 0 (λi a h=>h=H.e.w (ad (cN d) 38)/\aa a 1 (pB 0)/\aa a 4 (J i)/\∃b,aa a 3 (zP b)/\(b=Y->d.f<=f d.t)) ⟨rfl,by simp,by simp,_,by simp;rfl,λh=>by simpa using h⟩ (by omega) (by omega) ?_ ?_
 .rintro i a h m l ⟨rfl,e,g,b,j,o⟩-p
  have A:=Ka (zW l)
  have c:=λn m=>c n d.aY[i].type m (by show _<2097152;omega)
  cases b
  .simp[e,j,g,l,p]
  .simp[e,j,g,l,p,c]
   by_cases q:d.f<=f d.aY[i].type
   .exact zt ⟨q,o rfl⟩
   .exact zq (by omega)
 .rintro a h m ⟨rfl,e,g,b,j,o⟩-
  simp[e,j,g]
  cases b
  .exact zq rfl
  .exact zt ⟨rfl,Int.le_trans (o rfl) k⟩
structure Gr(d:zB):Prop where
 PJ:d.k≠3->d.bD.params=0/\d.bD.rules=[]/\d.f=0/\d.aY=[]
 bk:d.k=0\/d.k=1\/d.k=2\/d.k=3->d.bk=[]
theorem aov:∃f:zB->Bool,aJ Z prog 82 (λ_=>True) (λd=>[bI d]) (λx=>zP (f x))/\∀d,f d=Y->Gr d:=by
 obtain⟨f,F,L⟩:∃f:zB->Bool,aJ Z prog 82 (λ_=>True) (λd=>[bI d]) (λx=>zP (f x))/\∀d,True->f d=Y->Gr d:=by
  refine iC zP (λ(d:zB) v=>v=Y->Gr d) λd _=>?_
  let⟨f,M⟩:=abN
  let⟨C,N,i⟩:=Dp M DN
  have B:=λn m=>i n d.bD.type m trivial
  have p:=λn m=>i n d.v m trivial
  have w:=λn m=>i n d.t m trivial
  refine jq (T:=Z) tok C N (.Cs (kM d) .Nl) (λ_=>.Gd rfl) 5 F82 rfl rfl ?_
  let a:=H.e.w (ad (cN d) 38)
  rw[bC F82]
  refine aS (N':=λj h=>h=a/\aa j 1 (pB 0)) (by simp[a]) λj h⟨t,b⟩=>?_
  subst t
  refine aS (N':=λj h=>h=a/\aa j 1 (pB 0)/\∃r,aa j 3 (zP r)/\(r=Y->d.bD.params=0/\d.bD.rules=[])) ?_ λj h⟨t,b,r,y,u⟩=>?_
  .by_cases g:d.bD.params=0
   case neg=>simp[a,b,g]
   cases c:f d.bD.type
   .simp[a,b,B,g,c]
   .simp[a,b,B,g,c]
    by_cases q:d.bD.rules=[]
    .exact zt q
    .exact zq q
  subst t
  refine aS (N':=λj h=>h=a/\aa j 1 (pB 0)/\∃r,aa j 4 (zP r)/\(r=Y->d.bD.params=0/\d.bD.rules=[]/\d.f=0/\d.aY=[])) ?_ λj h⟨t,b,r,k,u⟩=>?_
  .by_cases g:d.f=0
   case neg=>simp[a,b,y,g]
   by_cases c:d.aY=[]
   case neg=>simp[a,b,y,g,c]
   simp[a,b,y,g,c]
   cases r
   .exact zq rfl
   .exact zt ⟨rfl,u rfl⟩
  subst t
  have A:r=Y->d.bk=[]->Gr d:=λe h=>⟨λ_=>u e,λ_=>h⟩
  have P:r=Y->¬(d.k=0\/d.k=1\/d.k=2\/d.k=3)->Gr d:=λe h=>⟨λ_=>u e,λq=>absurd q h⟩
  have Q:d.k=3->d.bk=[]->Gr d:=λe h=>⟨λq=>absurd e q,λ_=>h⟩
  by_cases o:d.k=0
  .cases g:f d.v
   .simp[a,b,k,o,p,g,an]
   by_cases c:d.bk=[]<;>cases r<;>simp[a,b,k,o,p,g,c,an]
   exact A rfl c
  by_cases i:d.k=1
  .by_cases c:d.bk=[]<;>cases r<;>simp[a,b,k,i,c,an]
   exact A rfl c
  by_cases s:d.k=2
  .by_cases c:d.bk=[]<;>cases r<;>simp[a,b,k,s,c,an]
   exact A rfl c
  by_cases l:d.k=3
  .cases g:f d.v
   .simp[a,b,l,p,g,an]
   by_cases c:d.bk=[]<;>simp[a,b,l,p,g,c,an]
   exact Q l c
  by_cases c3:d.n=⟨#[]⟩
  case neg=>simp[a,b,k,o,i,s,l,c3,an]
  cases c4:f d.t
  .simp[a,b,k,o,i,s,l,c3,c4,w,an]
  cases g:f d.v
  .simp[a,b,k,o,i,s,l,c3,c4,g,w,p,an]
  cases r<;>simp[a,b,k,o,i,s,l,c3,c4,g,w,p,an]
  exact P rfl (by simp[o,i,s,l])
 exact⟨f,F,λd=>L d trivial⟩
structure C7(d:zB):Prop where
 pw:0<=d.p/\d.p<=8
 fixed:0<=d.f
 bk:∀f∈d.bk,1<=f.arity/\f.arity<=16
 QA:d.k=3->(d.bD.params=d.p\/d.bD.params=d.p+1)/\d.f<=zD d.t
def aow:∃f:zB->Int,aJ Z prog 83 (λd=>dH d<bz) (λd=>[bI d]) (λx=>J (f x))/\∀d,dH d<bz->f d=0->C7 d:=by
 refine iC J (λ(d:zB) v=>v=0->C7 d) λd L=>?_;let⟨f,S,M⟩:=aou;let⟨C,V,w⟩:=Dp S E9;have X:=qP d;have hn:=EB d.bk;have w:=λn m=>w n d m L;have M:=M d L;unfold bz at L;refine jq (T:=Z) tok C V (.Cs (kM d) .Nl) (λ_=>.Gd rfl) 5000000 F83 rfl rfl ?_;by_cases r:d.p<0
 .simp[bC F83,f83,r]
 by_cases y:8<d.p
 .simp[bC F83,f83,r,y]
 by_cases N:d.f<0
 .simp[bC F83,f83,r,y,N]
 by_cases A:32<I d.aY
 .simp[bC F83,f83,r,y,N,A]
 rw[bC F83];refine aS (N':=λb h=>h=H.e.w (ad (cN d) 38)/\aa b 1 (pB 0)) (by simp) λb h⟨s,a⟩=>?_;subst s;refine aS (N':=λb h=>h=H.e.w (ad (cN d) 38)/\aa b 1 (pB 0)) (by simp[a,r,y,N]) λb h⟨s,a⟩=>?_;subst s;refine aS (N':=λb h=>h=H.e.w (ad (cN d) 38)/\aa b 1 (pB 0)) ?_ λb h⟨s,a⟩=>?_
 .by_cases g:d.k=4;case neg=>simp[a,A,g]
  by_cases l:I d.bk<1
  .simp[a,A,g,l]
  by_cases o:8<I d.bk<;>simp[a,A,g,l,o]
 subst s;simp;refine forA (I d.bk) 0 (λi b h=>h=H.e.w (ad (cN d) 38)/\aa b 1 (pB 0)/\aa b 3 (J i)/\∀j(B:j<I d.bk),j<i->1<=d.bk[j].arity/\d.bk[j].arity<=16) ⟨rfl,by simp[a],by simp,λ_ _ h=>by cases h⟩ (by omega) (by omega) ?_ ?_
 .rintro i b h m F ⟨rfl,a,k,B⟩-W;by_cases c8:d.bk[i].arity<1
  .simp[bC F83,f83,a,k,F,c8]
  by_cases c9:16<d.bk[i].arity
  .simp[bC F83,f83,a,k,F,c8,c9]
  simp[bC F83,f83,a,k,F,W,c8,c9];exact upto (p:=λc=>1<=c.arity/\c.arity<=16) F B ⟨by omega,by omega⟩
 rintro b h m ⟨rfl,a,k,B⟩-;have P:=AI (p:=λc:fR=>1<=c.arity/\c.arity<=16) λj h _=>B j h h;have Q:zx.wrap (d.p+1)=d.p+1:=by simp[xQ,xJ,y9];omega
 have R:(d.k=3->(d.bD.params=d.p\/d.bD.params=d.p+1)/\d.f<=zD d.t)->C7 d:=λh=>⟨⟨by omega,by omega⟩,by omega,P,h⟩;by_cases g:d.k=3
 case neg=>
  simp[bC F83,f83,a,k,g];exact R λq=>absurd q g
 have t:(d.bD.params=d.p\/d.bD.params=d.p+1)->f d=Y->C7 d:=λh e=>R λ_=>⟨h,M e⟩;by_cases l:d.bD.params=d.p
 .by_cases c8:(I d.bD.rules:Int)=I d.aY;case neg=>simp[bC F83,f83,a,k,g,l,c8]
  cases c9:f d<;>simp[bC F83,f83,a,k,g,l,c8,c9,w]
  exact t (zq l) c9
 by_cases o:d.bD.params=d.p+1
 .have u:¬d.p+1=d.p:=by omega
  by_cases c8:(I d.bD.rules:Int)=I d.aY;case neg=>simp[bC F83,f83,a,k,g,u,o,c8,Q]
  cases c9:f d<;>simp[bC F83,f83,a,k,g,u,o,c8,c9,w,Q]
  exact t (zt o) c9
 simp[bC F83,f83,a,k,g,l,o,Q]
end Go.Proofs.YtpeialehpoilbaaGreat
namespace Go.Am
section
variable{T:au}{P:zo}{α:Type}{e:zQ}{enc:α->E}{sz:Nat}
def oB(enc:α->E)(e:zQ)(v:E)(h:H)(l:List α):Prop:=
 (l=[]/\v=zL U 0 0)\/∃b a,b<h.n/\v=zL (O ⟨b,0,U⟩) (I l) (I l)/\h.g b=O (K (zF enc l) e a)
def eu.any{v:E}{h:H}{l:List α}(a:eu enc e v h l):oB enc e v h l:=a.imp id λ⟨b,c,d,f⟩=>⟨b,Y,c,d,f⟩
def oB.lZ(c:El T e enc sz){l:List α}(a:oB enc e v h l)(d:∀x∈l,bH (enc x)):ej h.g v (eb enc l):=by
 rcases a with⟨rfl,rfl⟩|⟨b,gr,k,rfl,f⟩
 .exact .cP
 .refine .slice (pre:=[]) (post:=[]) (es:=l.map enc) (sz:=sz) (e:=e) (gr:=gr) (by rw[f,qB];simp) rfl (λx g=>?_) (by simp) (zR _) (eV.pure (bX.of λv i=>?_))
  .obtain⟨y,_,rfl⟩:=List.mem_map.1 g;exact c.len y
  .obtain⟨y,j,rfl⟩:=List.mem_map.1 i;exact d y j
def ZW(a:El T e enc sz){b:Nat}{e2:zQ}{gr:Bool}{l:List α}(c:ae h b (K (zF enc l) e2 gr)):zH h (I l) sz (zL (pO b) (I l) (I l))=O (zF enc l):=by show rK 0 (z7 (I l) sz) (rD (h.g b))=_;rw[c];show cut (zF enc l) 0 (I l*sz)=_;rw[Sym.nw (by rw[a.ia];omega),yY,yI (by rw[a.ia];omega)]
def Hm{N R:Tr E->H->Prop}{X:Nat->Tr E->H->Prop}{k:S->ag}{a:ag}(h:aD (λb h=>aD N R X (k ⟨b,[],h,U⟩)) R (λi b h=>(i=n->aD N R X (k ⟨b,[],h,U⟩))/\(i≠n->X i b h)) a):aD N R X (jm k (lq n a)):=
 Sx (D8 h) λ_ _ q=>q
def UL{d:Fr}{N R:Tr E->H->Prop}{X:Nat->Tr E->H->Prop}(n c:Nat)(b:Nat->Tr E->H->Prop)(f:b 0 r h)(g:n+c<=m)(l:n<1099511627776)
 (step:∀i r h m,i<n->b i r h->c<=m->zx.wrap ((i:Int)+1)=(i:Int)+1->aD (b (i+1)) R bE (aw T (af T C m) d x ⟨r,[],h,U⟩))
 (done:∀r h m,b n r h->c<=m->aD ap R (λj r h=>j=k/\N r h) (aw T (af T C m) d x ⟨r,[],h,U⟩)):
 aD N R X (lq k (aw T (af T C m) d (.loop x) ⟨r,[],h,U⟩)):=by
 have e:∀a,jm (λs=>.c .Nr s) a=a:=λa=>by cases a with
  |c e s=>cases e<;>rfl
  |_=>rfl
 rw[<-e (lq k _)];exact forA n c b f g l step done
def adm(T:au)(e e2:zQ)(enc:α->E)(v x:E)(h:H)(l m:List α):Prop:=
 ∃b a,jO T h x (O (zf e)) (O (zf e2)) v (O (I m))=.v b a/\oB enc e b a (l++m)/\a.b=0/\h.n<=a.n/\(∀j,j<h.n->dz v j->a.g j=h.g j)/\∀j,j<h.n->dz v j->dz b j
def oB.oK(d:El T e enc sz){v x:E}{h:H}{l m:List α}{e2:zQ}(a:oB enc e v h l)(o:h.b=0)(B:I l+I m<=1073741824)(C:zH h (I m) sz x=O (zF enc m)):adm T e e2 enc v x h l m:=by
 have k:eu enc e v h l->adm T e e2 enc v x h l m:=λa=>by let⟨p,r,h1,L,M,N,_,P,Q⟩:=eu.oK (e2:=e2) d a o B C;exact⟨p,r,h1,L.any,M,N,P,Q⟩
 rcases a with a|⟨b,R,F,rfl,s⟩
 .exact k (zq a)
 cases R with
 |true=>exact k (zt ⟨b,F,rfl,s⟩)
 |false=>
  have g:=d.cw
  have f:∀y,cu h y=h:=λy=>by
   cases y with
   |slice a _ _=>cases a with|none=>rfl|some a=>exact Ae o
   |_=>rfl
  cases t:T.cw.g e with
  |none=>rw[t]at g;cases g
  |some i=>
   rw[t]at g;simp at g;have u:zV i.size 0=G:=jh (by have:=d.pos;omega);have w:ze i.bytes 65536=Y:=zb g.2;have S:zV (dh (zF enc m)) (z7 (I m) sz)=Y:=by rw[fX];exact ek (d.ia m)
   have V:zV (dh (zF enc l)) (z7 (I l) sz)=Y:=by rw[fX];exact ek (d.ia l)
   have A:ze (zl (I l) (I m)) 1073741824=Y:=zb B;show∃p r,jy T h e (zL (pO b) (I l) (I l)) x (pO b) (I l) (I l) (I m) (T.cw.g e)=_/\_;rw[t];unfold jy;dsimp only;rw[u,w,A,d.zero,g.1,C,ZW d s];show∃p r,cond (cond (zV (dh (zF enc m)) (z7 (I m) sz)) (cond (zV (dh (zF enc l)) (z7 (I l) sz)) (da (zF enc m)) G) G) (kq T (cu (cu h (zL (pO b) (I l) (I l))) x) b 0 e sz (I l) (I l) (I m) (zF enc l) (zF enc m) ((cu (cu h (zL (pO b) (I l) (I l))) x).g b)) .f=_/\_;rw[S,V,d.qA,f,f,s];show∃p r,bN (mP T h b e sz (zl (I l) (I m)) (zl 0 (z7 (I l) sz)) (il (zF enc l) (zF enc m)) (zF enc l) e G) (bN (Nu h b 0 (zl (I l) (I m)) (I l) e G (kx (zl 0 (z7 (I l) sz)) (zF enc m) (zF enc l))) (.v (zL (pO b) (I l) (I l)) h) (zV (I m) 0)) (ze (zl (I l) (I m)) (I l))=_/\_;cases m with
   |nil=>
    have q:ze (zl (I l) (I ([]:List α))) (I l)=Y:=zb (by show I l+0<=_;omega);rw[q];exact⟨_,_,rfl,zt ⟨b,G,F,by simp,by rw[ye];exact s⟩,o,zR _,λ_ _ _=>rfl,λ_ _ h=>h⟩
   |cons y m=>
    have q:ze (zl (I l) (I (y::m))) (I l)=G:=by
     cases q:ze (zl (I l) (I (y::m))) (I l) with
     |false=>rfl
     |true=>have:I l+I (y::m)<=I l:=wb q;rw[yo]at this;omega
    rw[q,Ca.qH,<-GD];refine⟨_,_,rfl,zt ⟨h.n,Y,by rw[jR];omega,by rw[List.length_append];rfl,by rw[ib];show(h.m.s h.n _).g h.n=_;rw[Tr.Bk,if_pos rfl]⟩,by rw[ib];exact o,by rw[jR];omega,λj W _=>D3 h _ (by omega),λj W _ b n c q=>?_⟩;injection q with q;injection q with q;injection q with q;omega
end
end Go.Am
namespace Go.Am.Eu
def bZ(d:zB):List ByteArray:=
 if d.k=0\/d.k=1\/d.k=2 then[d.n]else if d.k=3 then d.n::(d.aY.map gM.name++[d.n++ra])else if d.k=4 then d.bk.map fR.name else[]
def Yi(p a:Int):∀(i:Nat)(l:List gM),(rY p a i l).map tO=l.map gM.name
 |_,[]=>rfl
 |i,c::l=>by simp[rY,Yi p a (i+1) l]
def YU(p a:Int):∀(i:Nat)(l:List fR),(aLh p a i l).map tO=l.map fR.name
 |_,[]=>rfl
 |i,c::l=>by simp[aLh,YU p a (i+1) l]
def ajj(d:zB):(dL d c).map tO=bZ d:=by
 unfold dL bZ;split
 .rfl
 .split
  .simp[Yi]
  .split
   .exact YU ..
   .rfl
def YV{s:ByteArray}:∀{l:List (ByteArray×cK)},ke s l=U<->s∉l.map tO
 |[]=>by simp[ke]
 |(n,x)::l=>by
  have a:=YV (s:=s) (l:=l);rw[ke];by_cases h:n=s
  .simp[h]
  .rw[if_neg h,a];simp[Ne.symm h]
end Go.Am.Eu
namespace Go.Proofs.YtpeialehpoilbaaGreat
def F107:Z.f 107=O f107:=by kernel_rfl
def B1{s:ByteArray}:iQ Z h 1 (O (zf 9)) (O [(0,zN s)])=.v (zL (pO h.n) 1 1) (h.w (ad [zN s] 9)):=by kernel_rfl
def aox{l:List ByteArray}(a:oB zN 9 v h l):DV h.g v (bL l):=DV.of (a.lZ DD λ_ _=>.Gd rfl)
def SQ{l:List ByteArray}(s:ByteArray)(a:oB zN 9 v h l)(k:h.b=0)(n:I l+1<=1073741824):
 ∃d c,jO Z (h.w (K [zN s] 9 G)) (zL (O ⟨h.n,0,U⟩) 1 1) (O (zf 9)) (O (zf 9)) v (O 1)=.v d c/\oB zN 9 d c (l++[s])/\c.b=0/\h.n<=c.n/\(∀j,j<h.n->dz v j->c.g j=h.g j)/\∀j,j<h.n->dz v j->dz d j:=by
 have o:oB zN 9 v (h.w (K [zN s] 9 G)) l:=a.imp id λ⟨b,gr,i,e,f⟩=>⟨b,gr,by simp;omega,e,by rw[kP,if_neg (by omega)];exact f⟩;obtain⟨d,c,i,e,f,p,q,r⟩:=o.oK (m:=[s]) (e2:=9) DD (by simp[k]) n (ZW (l:=[s]) (b:=h.n) DD (e2:=9) (gr:=G) (by simp;rfl));refine⟨d,c,i,e,f,by simp at p;omega,λj t g=>?_,λj t g=>r j (by simp;omega) g⟩;rw[q j (by simp;omega) g,kP,if_neg (by omega)]
def SR:aJ Z prog 107 (λd=>dH d<bz) (λd=>[bI d]) (λd=>bL (bZ d)):=by
 intro d hd;have hw:=qP d;have hc:=EA d.aY;have hn:=EB d.bk;have hd:dH d<2097152:=hd;let w:=H.e.w (ad (cN d) 38)
 obtain⟨v,rfl,hv⟩:=Is (β:=List ByteArray) (r:=bL) (Q:=λv=>v=bZ d) (T:=Z) tok cg aW (.Cs (kM d) .Nl) 5000000 F107 rfl rfl (by
  rw[bC F107];refine aS (N':=λf h=>h=w/\aa f 1 (pB 0)) (by simp[f107,w]) λf h⟨eh,j⟩=>?_;subst eh;have p:∀(f:Am.Tr E)(h:H)(v:E),aa f 2 v->oB zN 9 v h (bZ d)->Dq Z [.tmp 2] bL (λv=>v=bZ d) f h:=λf h v t2 a=>⟨bZ d,v,h,by simp[t2],aox a,rfl⟩;by_cases A:d.k=0\/d.k=1\/d.k=2
  .have B:bZ d=[d.n]:=by unfold bZ;rw[if_pos A]
   have V:∀(h:H),oB zN 9 (zL (pO h.n) 1 1) (h.w (ad [zN d.n] 9)) (bZ d):=λh=>zt ⟨h.n,G,by simp,by rw[B];rfl,by rw[B];simp;rfl⟩;rcases A with k|k|k<;>simp[f107,w,j,k,an,B1]<;>exact p _ _ _ (by simp[w]) (V w)
  have k1:¬d.k=0:=λq=>A (zq q);have k2:¬d.k=1:=λq=>A (zt (zq q));have k3:¬d.k=2:=λq=>A (zt (zt q));by_cases M:d.k=3
  .have B:bZ d=d.n::(d.aY.map gM.name++[d.n++ra]):=by unfold bZ;rw[if_neg A,if_pos M]
   have ea:∀h x y,fu Z h .add 9 x y (O (zN d.n)) (O (zN ⟨#[46,114,101,99]⟩))=.v (zN (d.n++ra)) h:=λh x y=>abn h x y (a:=d.n) (b:=ra) (by show d.n.size+4<=_;unfold ao;omega);simp[f107,w,j,M,an,B1]
   refine Hm (forA (I d.aY) 0 (λi f h=>h.b=0/\1<=h.n/\ae h 0 (ad (cN d) 38)/\aa f 1 (pB 0)/\aa f 4 (J i)/\∃v,aa f 3 v/\dz v 0/\oB zN 9 v h (d.n::(d.aY.map gM.name).take i))
    ⟨by simp,by simp,by simp,by simp[j],by simp,_,by simp;rfl,λb n c q=>by injection q with q;injection q with q;injection q with q;omega,zt ⟨1,G,by simp,by simp,by simp;rfl⟩⟩ (by omega) (by omega) ?_ ?_)
   .rintro i f h m N ⟨o,W,s,j,F,v,L,g,C⟩-X;have hl:I (d.n::(d.aY.map gM.name).take i)=i+1:=by simp;omega
    let⟨v',h',e,l,t,P,R,u⟩:=SQ d.aY[i].name C o (by rw[hl];omega);simp[bC F107,f107,j,L,F,o,s,N,X,B1,e];have et:(d.aY.map gM.name).take (i+1)=(d.aY.map gM.name).take i++[d.aY[i].name]:=by rw[tu,zm (by simpa using N)];simp
    exact⟨t,by omega,by rw[R 0 (by omega) g];exact s,u 0 (by omega) g,by rw[et];simpa using l⟩
   .rintro f h m ⟨o,W,s,j,F,v,L,g,C⟩-;let⟨v',h',e,l,t,P,R,u⟩:=SQ (d.n++ra) C o (by simp;omega);simp[bC F107,f107,j,L,F,o,s,B1,e,ea];exact p _ _ v' (by simp) (by rw[B];rw[yI (by simp)]at l;exact l)
  by_cases S:d.k=4
  .have B:bZ d=d.bk.map fR.name:=by unfold bZ;rw[if_neg A,if_neg M,if_pos S]
   simp[f107,w,j,S,an]
   refine Hm (forA (I d.bk) 0 (λi f h=>h.b=0/\1<=h.n/\ae h 0 (ad (cN d) 38)/\aa f 1 (pB 0)/\aa f 6 (J i)/\∃v,aa f 5 v/\dz v 0/\oB zN 9 v h ((d.bk.map fR.name).take i))
    ⟨by simp,by simp,by simp,by simp[j],by simp,zL U 0 0,by simp,λb n c q=>(by injection q with q;cases q),zq ⟨by simp,rfl⟩⟩ (by omega) (by omega) ?_ ?_)
   .rintro i f h m N ⟨o,W,s,j,F,v,L,g,C⟩-X;have hl:I ((d.bk.map fR.name).take i)=i:=by simp;omega
    let⟨v',h',e,l,t,P,R,u⟩:=SQ d.bk[i].name C o (by rw[hl];omega);simp[bC F107,f107,j,L,F,o,s,N,X,B1,e];have et:(d.bk.map fR.name).take (i+1)=(d.bk.map fR.name).take i++[d.bk[i].name]:=by rw[tu,zm (by simpa using N)];simp
    exact⟨t,by omega,by rw[R 0 (by omega) g];exact s,u 0 (by omega) g,by rw[et];exact l⟩
   .rintro f h m ⟨o,W,s,j,F,v,L,g,C⟩-;simp[bC F107,f107,j,L,F,o,s];exact p _ _ v (by simp) (by rw[B];rw[yI (by simp)]at C;exact C)
  .have B:bZ d=[]:=by unfold bZ;rw[if_neg A,if_neg M,if_neg S]
   simp[f107,w,j,k1,k2,k3,M,S,an];exact p _ _ _ (by simp) (zq ⟨B,rfl⟩))
 exact hv
def F148:Z.f 148=O f148:=by kernel_rfl
def F108:Z.f 108=O f108:=by kernel_rfl
def ad9:dX λx:zB×Int×ByteArray=>[bI x.1,J x.2.1,zN x.2.2]:=λ⟨a,b,c⟩⟨d,f,g⟩ e=>by simp at e;rw[Af e.1,e.2.1,e.2.2]
def r7(x:zB×Int×ByteArray)(v:cK):Prop:=v.kind=4->v.decl=x.2.1/\∃j:Nat,v.item=j/\j<I x.1.aY
def aaQ:∃f:zB×Int×ByteArray->cK,aJ Z prog 148 (λx=>dH x.1<bz) (λx=>[bI x.1,J x.2.1,zN x.2.2]) (λx=>ee (f x))/\∀x,dH x.1<bz->r7 x (f x):=by
 have:Inhabited cK:=⟨E0⟩;refine iC ee r7 λ⟨d,a,s⟩ R=>?_;have hw:=qP d;have hc:=EA d.aY;have hn:=EB d.bk;have R:dH d<2097152:=R;refine Is (T:=Z) tok cg aW (.Cs (kM d) pZ) 5000000 F148 rfl rfl ?_;rw[bC F148];have B:=λ(h:H)(x:cK)(q:ae h 1 (ad z9 163))=>mS (x:=x) q rfl;let w:cK:=⟨0,a,0,d.p,d.t⟩;have F:=λ(h:H)(k:Int)(q:ae h 2 (ad (ew w) 163))=>R8 (k:=k) q;have X:=λ(h:H)(q:ae h 2 (ad z9 163))=>mS (x:=w) q rfl
 let b:cK->Am.Tr E->H->Prop:=λx j h=>h.b=0/\h.n=3/\ae h 0 (ad (cN d) 38)/\ae h 1 (ad z9 163)/\ae h 2 (ad (ew x) 163)/\
  aa j 1 (J a)/\aa j 2 (zN s)/\aa j 3 (pB 0)/\aa j 6 (pB 1)/\aa j 7 (pB 2)
 have p:∀(j:Am.Tr E)(h:H)(x:cK),r7 (d,a,s) x->aa j 6 (pB 1)->h.b=0->ae h 1 (ad (ew x) 163)->Dq Z [.cell 6 163] ee (r7 (d,a,s)) j h:=λj h x hx g c o=>⟨x,ee x,h,by simp[g,c,o],.Pu (Ed x),hx⟩;refine aS (N':=λj h=>h=(H.e.w (ad (cN d) 38)).w (ad z9 163)/\aa j 1 (J a)/\aa j 2 (zN s)/\aa j 3 (pB 0)/\aa j 6 (pB 1)) (by simp[f148]) λj h⟨eh,u,r,l,g⟩=>?_;subst eh;refine aS (N':=b w) (by simp[f148,b,w,X,u,r,l,g]) λj h⟨c,y,n,o,v,u,r,l,g,t⟩=>?_;have N:r7 (d,a,s) w:=λe=>absurd (show(0:Int)=4 from e) (by decide);clear_value w;have M:∀k:Int,k≠4->r7 (d,a,s) {w with kind:=k}:=λk hk e=>absurd e hk;by_cases S:d.k=0
 .simp[f148,S,an,c,n,o,v,l,g,t,F,B];exact p _ _ _ (M 0 (by decide)) (by simp[g]) (by simp[c]) (by simp)
 by_cases V:d.k=1
 .simp[f148,V,an,c,n,o,v,l,g,t,F,B];exact p _ _ _ (M 1 (by decide)) (by simp[g]) (by simp[c]) (by simp)
 by_cases W:d.k=2
 .simp[f148,W,an,c,n,o,v,l,g,t,F,B];exact p _ _ _ (M 2 (by decide)) (by simp[g]) (by simp[c]) (by simp)
 by_cases P:d.k=3
 .by_cases c1:s=d.n
  .simp[f148,P,an,c,n,o,v,r,l,g,t,F,B,c1];exact p _ _ _ (M 3 (by decide)) (by simp[g]) (by simp[c]) (by simp)
  simp[f148,P,an,c,n,v,r,l,t,F,c1];refine Hm (forA (I d.aY) 0 (λi j h=>b {w with kind:=3} j h/\aa j 8 (J i)) ⟨⟨by simp[c],by simp[y],by simp[n],by simp[o],by simp,by simp[u],by simp[r],by simp[l],by simp[g],by simp[t]⟩,by simp⟩ (by omega) (by omega) ?_ ?_)
  .rintro i j h m C ⟨⟨c,y,n,o,v,u,r,l,g,t⟩,A⟩-Q;by_cases L:d.aY[i].name=s
   case neg=>
    simp[bC F148,f148,c,n,r,l,A,C,Q,L];exact⟨c,y,n,o,v,by simp[u],by simp[r],by simp[l],by simp[g],by simp[t]⟩
   subst L;simp[bC F148,f148,c,y,n,o,u,r,l,g,A,C,B,cV,cZ,cY,dc,dt,cO,cR];exact p _ _ ⟨4,a,i,d.p,d.aY[i].type⟩ (λ_=>⟨rfl,i,rfl,C⟩) (by simp[g]) (by simp[c]) (by simp)
  .rintro j h m ⟨⟨c,y,n,o,v,u,r,l,g,t⟩,A⟩-;simp[bC F148,f148,c,n,o,u,l,g,A,B];exact p _ _ ⟨5,a,0,d.bD.params,d.bD.type⟩ (λe=>absurd (show(5:Int)=4 from e) (by decide)) (by simp[g]) (by simp[c]) (by simp)
 simp[f148,S,V,W,P,an,c,n,l];refine Hm (UL (I d.bk) 0 (λi j h=>b w j h/\aa j 9 (J i)) ⟨⟨by simp[c],by simp[y],by simp[n],by simp[o],by simp[v],by simp[u],by simp[r],by simp[l],by simp[g],by simp[t]⟩,by simp⟩ (by omega) (by omega) ?_ ?_)
 .rintro i j h m C ⟨⟨c,y,n,o,v,u,r,l,g,t⟩,A⟩-Q;by_cases L:d.bk[i].name=s
  case neg=>
   simp[bC F148,f148,c,n,r,l,A,C,Q,L];exact⟨c,y,n,o,v,by simp[u],by simp[r],by simp[l],by simp[g],by simp[t]⟩
  subst L;simp[bC F148,f148,c,y,n,o,u,r,l,g,A,C,B,cV,cZ,cY,dc,dt,cO,cR];exact p _ _ ⟨6,a,i,d.p,d.bk[i].type⟩ (λe=>absurd (show(6:Int)=4 from e) (by decide)) (by simp[g]) (by simp[c]) (by simp)
 .rintro j h m ⟨⟨c,y,n,o,v,u,r,l,g,t⟩,A⟩-;simp[bC F148,f148,c,n,o,v,l,g,t,A,B];exact p _ _ w N (by simp[g]) (by simp[c]) (by simp)
def RD(d:zB):I (bZ d)<=dH d+1:=by
 have a:=qP d;have b:=EA d.aY;have c:=EB d.bk;unfold bZ;split
 .show 1<=_+1;omega
 .split
  .simp;omega
  .split
   .simp;omega
   .exact ya _
def UM:dX oD:=λx y e=>by let⟨a,b⟩:=x;let⟨c,d⟩:=y;simp[oD]at e;rw[CA e.1,e.2]
abbrev It(x:cK×Int):E:=aTu [ee x.1,J x.2]
structure OI(x:List zB×ByteArray)(v:cK×Int):Prop where
 err:v.2=0\/v.2=9
 none:v.2≠0->∀d∈x.1,x.2∉bZ d
 Di:v.2=0->v.1.kind=4->∃i j:Nat,v.1.decl=i/\v.1.item=j/\∃hi:i<I x.1,j<I x.1[i].aY
def Tu:∃f:List zB×ByteArray->cK×Int,aJ Z prog 108 (λx=>eP x.1<bz) (λx=>[bw x.1,zN x.2]) (λx=>It (f x))/\∀x,eP x.1<bz->OI x (f x):=by
 have:Inhabited (cK×Int):=⟨(E0,0)⟩;refine iC It OI λ⟨a,s⟩ v=>?_;let⟨f,F,w⟩:=aaQ;let⟨C,L,l,g,y⟩:=awS SR E9 Kr UM F ad9 (by decide);have hl:=Hl a;have v:eP a<2097152:=v
 have A:∀(b:Am.Tr E)(h:H)(x:cK)(n:Int),OI (a,s) (x,n)->aa b 4 (pB 0)->aa b 5 (J n)->h.b=0->ae h 0 (ad (ew x) 163)->Dq Z [.cell 4 163,.tmp 5] It (OI (a,s)) b h:=λb h x n M e N P Q=>
  ⟨(x,n),It (x,n),h,by simp[e,N,P,Q],.Pu (.Tt (.Cs (Ed x) dF)),M⟩
 refine Is (T:=Z) tok C L (.Cs (me a) dF) 5000000 F108 rfl rfl ?_;have R:=λ(h:H)(x:cK)(q:ae h 0 (ad z9 163))=>mS (x:=x) q rfl;simp[bC F108,f108];refine forA (I a) 0 (λi b h=>h=H.e.w (ad z9 163)/\aa b 0 (bw a)/\aa b 1 (zN s)/\aa b 4 (pB 0)/\aa b 6 (J i)/\∀j(o:j<I a),j<i->s∉bZ a[j]) ⟨rfl,by simp,by simp,by simp,by simp,λ_ _ h=>by cases h⟩ (by omega) (by omega) ?_ ?_
 .rintro i b h m k ⟨rfl,r,B,e,t,o⟩-S;have hm:=Bm (f:=dH) (zW k);have u:dH a[i]<bz:=by unfold eP at v;unfold bz;omega
  have V:=RD a[i];have l:=λn m=>l n a[i] m u;have g:=λn m=>g n (bZ a[i],s) m (by show(bZ a[i]).length<_;unfold ao;unfold bz at u;omega);have y:=λn m=>y n (a[i],(i:Int),s) m u;have w:=w (a[i],(i:Int),s) u;simp only[oD]at g;cases c:eW (bZ a[i]) s
  .simp[r,B,e,t,k,S,l,g,c];exact upto (p:=λd=>s∉bZ d) k o λq=>by rw[amh.2 q]at c;cases c
  simp[r,B,e,t,k,l,g,y,c,R]
  exact A _ _ _ 0 ⟨zq rfl,λq=>absurd rfl q,λ_ W=>by let⟨X,j,q2,q3⟩:=w W;exact⟨i,j,X,q2,k,q3⟩⟩ (by simp[e]) (by simp) (by simp) (by simp)
 .rintro b h m ⟨rfl,r,B,e,t,o⟩-;simp[r,e,t,acb];exact⟨(E0,9),aTu [aAg z9,J 9],_,by simp[e,ac5];rfl,.Tt (.Cs (DV.of acd) ka),zt rfl,λ_=>AI (p:=λd=>s∉bZ d) λj h _=>o j h h,λq=>absurd (show(9:Int)=0 from q) (by decide)⟩
end Go.Proofs.YtpeialehpoilbaaGreat
namespace Go.Am.Eu
def ahH{d:zB}{s:ByteArray}(h:s∈bZ d):s.size<=dH d+4:=by
 have b:=qP d;have e:(d.n++ra).size=d.n.size+4:=by rw[ByteArray.size_append];rfl
 unfold bZ at h;split at h
 .simp at h;subst h;omega
 .split at h
  .simp at h;rcases h with rfl|⟨c,a,rfl⟩|rfl
   .omega
   .have:=Ka a;omega
   .omega
  .split at h
   .simp at h;obtain⟨c,a,rfl⟩:=h;have:=N6 a;omega
   .cases h
abbrev Sc:=List zB×List ByteArray×zB
abbrev xl(s:Sc):List E:=bw s.1::bL s.2.1::cN s.2.2
def li(s:Sc):E:=aAg (xl s)
def SS(s:Sc):bH (li s):=.agg (.Cs (me _) (.Cs (lj _) (MZ _)))
def Tv{x y:Sc}(h:li x=li y):x=y:=by let⟨a,b,c⟩:=x;let⟨d,e,f⟩:=y;injection h with h;injection h with h;injection h with g h;injection h with i h;have j:a=d:=pF g;have k:b=e:=CA i;have m:c=f:=Af (congrArg (λl=>yu ⟨l⟩) h);rw[j,k,m]
def LQ(s:Sc):Prop:=eP s.1<bz/\I s.2.1<=bz/\dH s.2.2<bz
end Go.Am.Eu
namespace Go.Proofs.YtpeialehpoilbaaGreat
def F84:Z.f 84=O f84:=by kernel_rfl
def awV:dX λs:ByteArray=>[zN s]:=λx y e=>by simpa using e
def UN:dX λx:List zB×ByteArray=>[bw x.1,zN x.2]:=λ⟨a,b⟩⟨c,d⟩ e=>by simp at e;rw[pF e.1,e.2]
def W3:dX λx:List zB×zB=>[bw x.1,bI x.2]:=λ⟨a,b⟩⟨c,d⟩ e=>by simp at e;rw[pF e.1,Af e.2]
def adn{f:A->E}{e:zQ}(b:Z.u t=O (zf e))(c:Am.zI Z e=O n){h:H}{a:List A}(d:k<=I a):
 rO Z h t (O (cp (a.map f) 0 (I a) [])) (O U) (O (O (J k))) (O U)=.v (cp (a.map f) 0 k []) h:=by
 show CF Z h U (O (J k)) U (Z.u t) _=_;rw[b];show GN h (a.map f) 0 (I a) [] U (Am.zI Z e) (O 0) (O k) (O (I a))=_;rw[c];show cond (cond (ze (I a) (I a)) (cond (ze k (I a)) (cond (ze 0 k) (cond (zV 0 0) Y (N9 n (a.map f)[0]?)) G) G) G) (aK.v (cp (a.map f) (zl 0 0) (k-0) []) h) .f=_;rw[zb (zR _),zb d,zb (ya k)];rfl
def Tw{h:H}{l:List ByteArray}(a:k<=I l):rO Z h 24 (O (bL l)) (O U) (O (O (J k))) (O U)=.v (cp (l.map zN) 0 k []) h:=adn TT.u22 s9 a
@[simp] theorem N7(f:A->E)(l:List A):dj (eb f l)=eb f l:=Ep f l
@[simp] theorem aaR:dj (al y)=al y:=Ep D y
@[simp] theorem abO{l:List aB}:dj (aO l)=aO l:=Ep aT l
@[simp] theorem acF{s:ByteArray}:dj (zN s)=zN s:=rfl
@[simp] theorem acG{k:IntKind}:dj (.int k c)=.int k c:=rfl
@[simp] theorem aHt{b:Bool}:dj (zP b)=zP b:=rfl
def SU(d:zB):(cN d).map dj=cN d:=by simp only[cN,recC,xK,xn,abO,N7,aaR,acF,acG,List.map_nil]
@[simp] theorem aqW(d:zB):fO (bI d)=bI d:=congrArg (λl=>yu ⟨l⟩) (SU d)
def aqX(l:List ByteArray)(a:k<=I l):fO (cp (l.map zN) 0 k [])=bL (l.take k):=Sh zN l a
def aqY:∃f:List zB×zB->Int,aJ Z prog 84 (λx=>eP x.1<bz/\dH x.2<bz) (λx=>[bw x.1,bI x.2]) (λx=>J (f x))/\∀x,eP x.1<bz/\dH x.2<bz->f x=0->∀n∈bZ x.2,∀d∈x.1,n∉bZ d:=by
 refine iC J (λ(x:List zB×zB) v=>v=0->∀n∈bZ x.2,∀d∈x.1,n∉bZ d) λ⟨a,d⟩⟨r,s⟩=>?_;let⟨f,N,w⟩:=Tu;let⟨C,P,y,A,t,e⟩:=awU SR E9 Kr UM N UN abl awV (by decide);have Q:=RD d;have R:=λ(i:Nat)(c:i<I (bZ d))=>ahH (zW c);have r:eP a<bz:=r;have s:dH d<bz:=s;have y:=y d s [bI d] (by simp);unfold bz at s;have L:=λ(h:H)(b:Nat)(x:cK)(q:ae h b (ad z9 163))=>mS (x:=x) q rfl;refine jq (T:=Z) tok C P (.Cs (me a) (.Cs (kM d) .Nl)) (λ_=>.Gd rfl) 5000000 F84 rfl rfl ?_;simp[bC F84,f84,y];refine forA (I (bZ d)) 0 (λi g h=>h.b=0/\aa g 0 (bw a)/\aa g 5 (bL (bZ d))/\aa g 6 (J i)/\∀j(u:j<I (bZ d)),j<i->∀k∈a,(bZ d)[j]∉bZ k) ⟨by simp,by simp,by simp,by simp,λ_ _ h=>by cases h⟩ (by omega) (by omega) ?_ ?_
 .rintro i g h m c ⟨M,B,l,o,u⟩-S;have V:=R i c;have e:=e ((bZ d)[i]) (by show _<ao;unfold ao;omega) [zN (bZ d)[i]] rfl;have t:=t (a,(bZ d)[i]) r [bw a,zN (bZ d)[i]] (by simp)
  have A:=A ((bZ d).take i,(bZ d)[i]) (by show((bZ d).take i).length<ao;rw[wV];unfold ao;omega) [cp ((bZ d).map zN) 0 i [],zN (bZ d)[i]] (by show[fO _,_]=_;rw[aqX _ (by omega)];rfl)
  have w:=(w (a,(bZ d)[i]) r);by_cases c1:oz (bZ d)[i]=Y;case neg=>simp[l,o,c,e,c1]
  by_cases F:(f (a,(bZ d)[i])).2=0
  .simp[B,l,o,c,e,c1,t,F,L]
  cases c3:eW ((bZ d).take i) (bZ d)[i]<;>simp[M,B,l,o,c,S,e,c1,t,F,A,Tw (v9 c),L,c3,bounds,iV]
  exact upto (p:=λn=>∀k∈a,n∉bZ k) c u (w.none F)
 .rintro g h m ⟨M,B,l,o,u⟩-;simp[l,o];exact AI (p:=λn=>∀k∈a,n∉bZ k) λj h _=>u j h h
def UO:Am.zI Z 182=O 25:=by kernel_rfl
def ado:Am.zK Z 182=O Y:=by kernel_rfl
section
variable(h:H)(b o:Nat)(s:Sc)
@[simp] theorem aFw:aX Z h 182 0 (O (zM (O ⟨b,o,U⟩)))=.v (zM (O ⟨b,o+0,U⟩)) h:=by kernel_rfl
@[simp] theorem aFx:aX Z h 182 1 (O (zM (O ⟨b,o,U⟩)))=.v (zM (O ⟨b,o+1,U⟩)) h:=by kernel_rfl
@[simp] theorem aFy:aX Z h 182 2 (O (zM (O ⟨b,o,U⟩)))=.v (zM (O ⟨b,o+2,U⟩)) h:=by kernel_rfl
@[simp] theorem aIB:zE Z 22 (xl s) 0=O (bw s.1):=by rw[dK (show Am.zK Z 22=O G by kernel_rfl)];rfl
@[simp] theorem aIC:zE Z 24 (xl s) 1=O (bL s.2.1):=by rw[mG];rfl
@[simp] theorem aId:zE Z 38 (xl s) 2=O (bI s.2.2):=by rw[fV U0 Fo];rfl
@[simp] theorem aFz:zE Z 3 (xl s) 4=O (J s.2.2.p):=by rw[p3];rfl
@[simp] theorem aIe:zE Z 182 (xl s) 0=O (li s):=by rw[fV ado UO];rfl
@[simp] theorem aFA:ah (li s)=xl s:=rfl
end
def F149:Z.f 149=O f149:=by kernel_rfl
theorem F109:Z.f 109=O f109:=by kernel_rfl
def stI:dX λx:Sc×zA=>[li x.1,D x.2]:=λ⟨a,b⟩⟨c,d⟩ e=>by simp at e;rw[Tv e.1,cf e.2]
def alF:∃f:Sc×zA->Int,aJ Z prog 149 (λx=>LQ x.1/\wt x.2<bz) (λx=>[li x.1,D x.2]) (λx=>J (f x)):=by
 refine NT J (λx:Sc×zA=>wt x.2) λ⟨s,t⟩⟨⟨A,p,V⟩,B⟩⟨f,hf⟩=>?_;let⟨g,hg,F⟩:=Tu;obtain⟨e,hE,-⟩:=aaQ;let⟨C,hC,k,u,L,M⟩:=ad7 hg UN Kr UM hE ad9 hf stI (by decide);have B:wt t<bz:=B;have hk:=N1 t;have N:LQ s:=⟨A,p,V⟩;have k:∀n m,af Z C n (aj 108 [bw s.1,zN t.F] m)=.r (It (g (s.1,t.F))) m U:=λn m=>k n (s.1,t.F) m A;have u:=λn m=>u n (s.2.1,t.F) m (by show I s.2.1<_;have p:I s.2.1<=bz:=p;unfold bz at p;unfold ao;omega);have L:=λn a m=>L n (s.2.2,a,t.F) m V;have W:=(F (s.1,t.F) A).err;unfold bz at B;generalize g (s.1,t.F)=r at k W;let⟨x,n⟩:=r;have P:=λ(h:H)(b:Nat)(x:cK)(q:ae h b (ad z9 163))=>mS (x:=x) q rfl;have s2:=λ(h:H)(b:Nat)(y:cK)(q:ae h b (ad (ew x) 163))=>mS (x:=y) q rfl;refine(jq (T:=Z) (Q:=λ_=>True) tok C hC (.Cs (SS s) (.Cs (bg t) .Nl)) (λ_=>.Gd rfl) 5000000 F149 rfl rfl ?_).imp λ_ h=>h.2;rw[bC F149];refine aS (N':=λc h=>h=(H.e.w (ad (xl s) 182)).w (ad (ah (D t)) 31)/\aa c 2 (pB 0)/\aa c 3 (pB 1)) (by simp) λc h⟨eh,j,d⟩=>?_;subst eh;refine aS (N':=λc h=>h.b=0/\2<=h.n/\ae h 0 (ad (xl s) 182)/\ae h 1 (ad (ah (D t)) 31)/\aa c 2 (pB 0)/\aa c 3 (pB 1)) ?_ λc h⟨l,v,w,o,j,d⟩=>?_
 .by_cases c1:t.w=3;case neg=>simp[j,d,c1]
  rcases W with q|q
  .have q:n=0:=q;subst q;by_cases R:(I t.H:Int)=x.params<;>simp[j,d,c1,R,k,P]
  .have q:n=9:=q;subst q;cases c3:eW s.2.1 t.F
   .simp[j,d,c1,k,u,P,c3]
   by_cases R:(I t.H:Int)=(e (s.2.2,(I s.1:Int),t.F)).params<;>simp[j,d,c1,R,c3,k,u,L,P,s2]
 simp;refine forA (I t.M) 0 (λi c h=>h.b=0/\2<=h.n/\ae h 0 (ad (xl s) 182)/\ae h 1 (ad (ah (D t)) 31)/\aa c 2 (pB 0)/\aa c 3 (pB 1)/\aa c 7 (J i)) ⟨l,v,w,o,by simp[j],by simp[d],by simp⟩ (by omega) (by omega) ?_ ?_
 .rintro i c h m X ⟨l,v,w,o,j,d,S⟩-e2;have hw:=EG (zW X);have M:=λn m=>M n (s,t.M[i]) m ⟨by show wt t.M[i]<wt t;omega,N,by show wt t.M[i]<bz;unfold bz;omega⟩;have q0:0<h.n:=by omega
  have q1:1<h.n:=by omega
  by_cases c4:f (s,t.M[i])=0<;>simp[bC F149,f149,l,v,w,o,j,d,S,X,e2,M,c4,q0,q1]
 .rintro c h m ⟨l,v,w,o,j,d,S⟩-;simp[bC F149,f149,l,o,d,S]
def F151:Z.f 151=O f151:=by kernel_rfl
def avg:aJ Z prog 30 (λt=>zD t<1073741824) (λt=>[D t]) (λt=>aTu [al (cQ t).1,D (cQ t).2]):=by
 intro t F;have F:zD t<1073741824:=F
 obtain⟨v,rfl,b⟩:=Is (β:=List zA×zA) (r:=λx=>aTu [al x.1,D x.2]) (Q:=λv=>v=cQ t) (T:=Z) tok cg aW (.Cs (bg t) .Nl) 1100000000 F30 rfl rfl (by
  have k:∀(d:Am.Tr E)(h:H)(v:E)(l:List zA)(u:zA),(l,u)=cQ t->aa d 2 v->aa d 3 (pB 1)->h.b=0->dz v 1->2<=h.n->eu D 31 v h l->Dq Z [.tmp 2,.cell 3 31] (λx:List zA×zA=>aTu [al x.1,D x.2]) (λv=>v=cQ t) d (h.p 1 (ad (ah (D u)) 31)):=λd h v l u e V f c n nx b=>
   ⟨(l,u),aTu [v,D u],h.p 1 (ad (ah (D u)) 31),by simp[V,f,c],.Tt (.Cs (DV.of ((b.mono (h':=h.p 1 (ad (ah (D u)) 31)) (by simp) λj W o=>by have:¬j=1:=λq=>o (q▸n);simp[this]).lZ mH (Sy _))) (.Cs (.Pu (bg _)) .Nl)),e⟩
  simp[bC F30,f30];refine acE 0 (λj d h=>∃a l,j=zD a/\I l+zD a<=zD t/\(l++(cQ a).1,(cQ a).2)=cQ t/\mC 1 3 a l d h) (zD t) ⟨t,[],rfl,by simp,rfl,by simp,by simp,by simp,by simp,by simp,by simp,zL U 0 0,by simp,.nil _,λ_ _ _ q=>(by cases q),λ_ _ _ q=>(by cases q)⟩ (by omega) ?_;rintro j d h m ⟨a,l,rfl,hn,p,c,g,w,B,A,f,v,C,b,X,n⟩-;have L:0<h.n:=by omega
  have M:1<h.n:=by omega
  by_cases s:a.w=6
  .by_cases i:I a.M=2
   .let⟨x,y,i⟩:=Kq i;have e1:=oQ i;have e2:=jx x;let⟨v',h',e,k1,N,k3,P,R,S,k7⟩:=Tg (x:=x) c (by omega) g b X n;rw[w]at P;rw[B]at R;have n0:¬0=h.n:=by omega
    simp[A,C,c,w,s,i,e,N,P];refine⟨_,show zD y<zD a by omega,y,rfl,l++[x],by simp;omega,by rw[<-p,Tf s i];simp,?_⟩
    exact⟨by simp[N],by simpa using k3,by simp,by simp[R],by simp[A],by simp[f],v',by simp,k1.mono (by simp) λj W b=>by have:¬j=0:=λq=>b (q▸S);simp[this],S,k7⟩
   .rw[JJ (λq=>i q.2)]at p;simp[A,f,C,c,w,B,s,i,L,M,cV,MC,MJ];exact k _ _ v l a (by simpa using p) (by simp) (by simp[f]) c n g b
  .rw[JJ (λq=>s q.1)]at p;simp[A,f,C,c,w,B,s,L,M,cV,MC,MJ];exact k _ _ v l a (by simpa using p) (by simp) (by simp[f]) c n g b)
 exact b
def alG:∃f:zB×Nat->Int,aJ Z prog 151 (λx=>dH x.1<bz/\(0<=x.1.f/\x.1.f<=2097152)/\x.2<I x.1.aY) (λx=>[bI x.1,J x.2]) (λx=>J (f x))/\∀x,(dH x.1<bz/\(0<=x.1.f/\x.1.f<=2097152)/\x.2<I x.1.aY)->0<=f x/\f x<=bz:=by
 refine iC J (λ(_:zB×Nat) v=>0<=v/\v<=bz) λ⟨d,j⟩⟨c,e,a⟩=>?_;let⟨C,g,b⟩:=Dp avg DN;have l:=qP d;have a:j<I d.aY:=a;have o:=Ka (zW a);have p:=Em d.aY[j].type;have c:dH d<2097152:=c;have e:0<=d.f/\d.f<=2097152:=e;have b:=λn m=>b n d.aY[j].type m (by omega);have h:=aap (zD d.aY[j].type) d.aY[j].type;have i:cQ d.aY[j].type=nQ (zD d.aY[j].type) d.aY[j].type:=rfl;rw[<-i]at h;have k:zx.wrap ((I (cQ d.aY[j].type).1:Int)-d.f)=(I (cQ d.aY[j].type).1:Int)-d.f:=by simp[xQ,xJ,y9];omega
 refine jq (T:=Z) tok C g (.Cs (kM d) dF) (λ_=>.Gd rfl) 5 F151 rfl rfl ?_;simp[bC F151,f151,a,b,k,bz];split<;>omega
end Go.Proofs.YtpeialehpoilbaaGreat
namespace Go.Am.Eu
section
open Go.Proofs.YtpeialehpoilbaaGreat
theorem aoy{m l:Int}:∀(N:Nat)(t:zA)(d:Nat),zD t<N->jG c e m l d t=0->aI (λu=>∃d,m6 c e m l d u=0) t:=by
 intro N
 induction N with
 |zero=>intro t d h;omega
 |succ N n=>
  intro t d r h
  rw[TK]at h
  by_cases hn:m6 c e m l d t=0
  case neg=>rw[if_pos hn]at h;exact absurd h hn
  rw[if_neg (by simpa using hn)]at h
  have o:∀(f:List zA)(i:Nat),(∀x∈f,zD x<N)->pt c e m l d t.w i f=0->∀x∈f,aI (λu=>∃d,m6 c e m l d u=0) x:=by
   intro f
   induction f with
   |nil=>intro _ _ _ x b;cases b
   |cons y f j=>
    intro i k h x b
    rw[aal]at h
    by_cases g:jG c e m l (d+mn t.w i) y=0
    .rw[if_neg (by simpa using g)]at h
     rcases zp.1 b with rfl|b
     .exact n _ _ (k _ (by simp)) g
     .exact j _ (λa q=>k a (by simp[q])) h x b
    .rw[if_pos g]at h;exact absurd h g
  exact .mk ⟨d,hn⟩ (o _ _ (λx b=>by have:=mg b;omega) h)
def alH{m l:Int}(h:kX c e m l a=0):jG c e m l 0 a=0/\zD a<=4096/\jA a<=200:=by
 unfold kX at h;split at h
 .rename_i q;exact absurd h q
 .rename_i q;split at h
  .cases h
  .split at h
   .cases h
   .exact⟨by simpa using q,by omega,by omega⟩
def YW{p l:Int}:∀{b:List aB},mT p l b=0->∀x∈b,ic p l x=0
 |y::r,h,x,a=>by
  rw[mT]at h;by_cases q:ic p l y=0
  .rw[if_neg (by simpa using q)]at h;rcases zp.1 a with rfl|a
   .exact q
   .exact YW h x a
  .rw[if_pos q]at h;exact absurd h q
def alI{x:aB}(h:ic e 0 x=0):lu x/\∀v∈x.v,0<=v.index/\v.index<e:=by
 unfold ic at h;split at h
 .cases h
 .rename_i f;have f:=Classical.not_not.1 f;split at h
  .cases h
  .rename_i j;split at h
   .cases h
   .rename_i k;refine⟨f,λv g=>?_⟩;have a:¬e<=v.index:=λd=>j ⟨v,g,d⟩;obtain⟨i,l,rfl⟩:=yk.1 g;have b:=(f.2 i l).1;refine⟨?_,by omega⟩;by_cases c:0<=x.v[i].index
    .exact c
    .refine absurd ⟨_,g,by omega,?_⟩ k;have:aL (-1-x.v[i].index)= -1-x.v[i].index:=by simp[aL,xQ,xJ,y9];omega
     rw[this];omega
structure rV(p:Int)(t:zA):Prop where
 form:Bz t
 ng:t.w=3->I t.H<=8
 lv:∀x∈t.H,lu x/\∀v∈x.v,0<=v.index/\v.index<p
 as9:t.w≠12
def aoz(h:m6 c e 0 0 n a=0):rV e a:=by
 unfold m6 at h;split at h
 .cases h
 .rename_i g;split at h
  .cases h
  .split at h
   .cases h
   .rename_i i;split at h
    .rename_i q;exact absurd h q
    .rename_i j;split at h
     .cases h
     .split at h
      .cases h
      .rename_i k;refine⟨by simpa[jX]using g,λb=>by have:=λf=>i ⟨b,f⟩;omega,λx l=>alI (YW (by simpa using j) x l),λb=>k ⟨b,by omega⟩⟩
def aoA{x:aB}(h:lu x)(d:∀v∈x.v,0<=v.index/\v.index<e):(I x.v:Int)<=max e 0:=by
 have b:∀i(a:i<I x.v),(i:Int)<=x.v[i].index:=by
  intro i;induction i with
  |zero=>intro a;exact(d _ (zW a)).1
  |succ i f=>
   intro a;have:=f (by omega);have g:=(h.2 (i+1) a).2.2.1 (by omega);simp only[Nat.add_sub_cancel]at g
   push_cast;omega
 by_cases c:I x.v=0
 .rw[c];omega
 .have:=b (I x.v-1) (by omega);have:=(d _ (zW (show I x.v-1<I x.v by omega))).2;omega
def rV.aea(h:rV c a)(d:c<=1000):mD a:=by
 refine⟨?_,λx b=>?_⟩
 .by_cases k:a.w=3
  .have:=h.ng k;omega
  .have:=h.form.2.2.2.2;split at this
   .omega
   .rcases this with q|q
    .omega
    .exact absurd q k
 .have:=aoA (h.lv x b).1 (h.lv x b).2;omega
def rV.W4(h:rV c a)(f:0<=c)(b:c<=1000):jI c.toNat a:=⟨h.form.2.1,h.aea b,λl d v e=>by have:=(h.lv l d).2 v e;omega⟩
def rV.clV(h:rV 0 a):Wn a:=⟨⟨h.form.2.1,h.aea (by omega),λl b=>by
 cases c:l.v with
 |nil=>rfl
 |cons v r=>have:=(h.lv l b).2 v (by rw[c];simp);omega⟩,λl b=>by simpa[fL]using(h.lv l b).1⟩
def rV.flN(h:rV c a):oM a:=⟨h.as9,by rw[h.form.2.1];have:=Nk a.w;omega,λ⟨k,_⟩=>by let⟨_,_,h1,b,d⟩:=h.form;rw[k]at h1 b d;exact⟨by omega,by simpa using b,by simpa using d⟩⟩
def Ji(h:kX c e 0 0 a=0):aI (rV e) a/\zD a<=4096:=by let⟨h1,b,_⟩:=alH h;exact⟨(aoy _ a 0 (yL _) h1).imp λa⟨d,f⟩=>aoz f,b⟩
def YX:∀(n:Nat)(t:zA),I (nQ n t).1<=jA t
 |0,t=>by simp[nQ]
 |n+1,t=>by
  unfold nQ;split
  .rename_i a b e;split
   .have:=YX n b;rw[Zp,e,Jh,Jh];simp;omega
   .simp
  .simp
end
end Go.Am.Eu
namespace Go.Proofs.YtpeialehpoilbaaGreat
def F21:Z.f 21=O f21:=by kernel_rfl
structure iU where
 t:zA
 v:Int
 p:Int
 m:Int
 l:Int
def iU.enc(x:iU):List E:=[D x.t,J x.v,J x.p,J x.m,J x.l]
def iU.He{x y:iU}(h:x.enc=y.enc):x=y:=by cases x;cases y;simp[iU.enc]at h;let⟨h0,a,b,c,d⟩:=h;rw[cf h0,a,b,c,d]
def iU.ok(x:iU):Prop:=wt x.t<ao/\0<=x.v/\0<=x.p/\0<=x.m/\0<=x.l
def iU.cE(x:iU):Int:=jG x.v x.p x.m x.l 0 x.t
def iU.hE(x:iU):Int:=kX x.v x.p x.m x.l x.t
def iU.avh(x:iU):x.hE=if x.cE≠0 then x.cE else if 4096<zD x.t then 5 else if 200<jA x.t then 7 else 0:=rfl
def alJ:f21.body=O (.seq (z f21 pF0) (.seq (z f21 pF1) (.seq (z f21 pF2) (.seq (z f21 pF3) (z f21 pT4))))):=rfl
def Tx:aJ Z prog 21 iU.ok iU.enc (λx=>J x.hE):=by
 obtain⟨C,S,f,A,g⟩:∃C,aR Z prog C/\Has C 42 (λx:eQ=>wt x.t+x.d<ao/\0<=x.p) eQ.enc (λx=>J x.cE)/\Has C 43 (λt=>zD t<=ao) (λt=>[D t]) (λt=>J (zD t))/\
  Has C 44 (λt=>wt t<ao) (λt=>[D t]) (λt=>J (jA t:Nat)):=
  ⟨_,aZ (aZ (aZ aW apI) aam) abw,.Sk (by decide) (.Sk (by decide) (.Ad λx y e=>by rw[eQ.He e])),.Sk (by decide) (.Ad λx y e=>by simp at e;rw[cf e]),.Ad λx y e=>by simp at e;rw[cf e]⟩
 rintro⟨t,v,p,m,l⟩ ⟨j,P,B,hm,hl⟩;have j:wt t<ao:=j;have P:0<=v:=P;have B:0<=p:=B;have V:=Em t;have F:=λn h=>f.ev (T:=Z) n (x:=⟨t,0,v,p,m,l⟩) ⟨j,B⟩ h;have L:=λn h=>A.ev (T:=Z) n (x:=t) (by omega) h;have i:=λn h=>g.ev (T:=Z) n (x:=t) j h;have b:¬v<0:=by omega
 refine ku (v:=J (iU.hE ⟨t,v,p,m,l⟩)) tok C S (.Cs (bg t) (.Cs bJ HY)) bJ 1 F21 alJ rfl ?_;rw[iU.avh];generalize W:(⟨t,v,p,m,l⟩:iU).cE=c;have a:∀n h,af Z C n (aj 42 [D t,J 0,J v,J p,J m,J l] h)=.r (J c) h U:=λn h=>by rw[<-W];exact F n h
 have M:(4096<(zD t:Int))=(4096<zD t):=by apply propext;omega
 have Q:(200<(jA t:Int))=(200<jA t):=by apply propext;omega
 have X:aD (λd h=>h=dG t/\aa d 1 (J v)/\aa d 2 (J p)/\aa d 3 (J m)/\aa d 4 (J l)/\aa d 5 (pB 0)) ap bE (aF Z (af Z C (1+1)) 21 (z f21 pF0) (bF (iU.enc ⟨t,v,p,m,l⟩) 0 .Nl) H.e):=by simp[z,f21,dG,iU.enc]
 refine aS (X.Mo bT aP cS) λd h q=>?_;obtain⟨rfl,k,o,r,s,u⟩:=q;by_cases w:c=0
 .by_cases N:4096<zD t
  .simp[z,f21,k,o,r,s,u,a,L,w,N,M,b]
  .by_cases R:200<jA t
   .simp[z,f21,k,o,r,s,u,a,L,i,w,N,R,M,Q,b]
   .simp[z,f21,k,o,r,s,u,a,L,i,w,N,R,M,Q,b]
 .simp[z,f21,k,o,r,s,u,a,w,b]
end Go.Proofs.YtpeialehpoilbaaGreat
namespace Go.Am
section
variable{T:au}{P:zo}
def awW{o p q r s:Type}{b c d g i:zZ}{t:A->E}{u:o->Prop}{j:o->List E}{v:o->E}{w:p->Prop}{k:p->List E}{x:p->E}{y:q->Prop}{l:q->List E}{B:q->E}
 {F:r->Prop}{m:r->List E}{H:r->E}{M:s->Prop}{n:s->List E}{N:s->E}(Q:aJ T P f L R t)(S:dX R)(V:aJ T P b u j v)(W:dX j)(X:aJ T P c w k x)(i3:dX k)(h4:aJ T P d y l B)(i4:dX l)
 (h5:aJ T P g F m H)(i5:dX m)(h6:aJ T P i M n N)(i6:dX n)(e:[i,g,d,c,b,f].Nodup):
 ∃C,aR T P C/\pA T C f L R t/\pA T C b u j v/\pA T C c w k x/\pA T C d y l B/\pA T C g F m H/\pA T C i M n N:=by
 simp only[List.nodup_cons,zp,List.not_mem_nil,not_or,or_false]at e;exact⟨bY f (pf (gq L R t)) (bY b (pf (gq u j v)) (bY c (pf (gq w k x)) (bY d (pf (gq y l B)) (bY g (pf (gq F m H)) (bY i (pf (gq M n N)) cg))))),pD (aZ (pD (aZ (pD (aZ (pD (aZ (pD (aZ (pD (aZ aW h6)) h5)) h4)) X)) V)) Q),qk S (by funext a h;simp[bY]),qk W (by funext a h;simp[bY,e]),qk i3 (by funext a h;simp[bY,e]),qk i4 (by funext a h;simp[bY,e]),qk i5 (by funext a h;simp[bY,e]),qk i6 (by funext a h;simp[bY,e])⟩
end
end Go.Am
namespace Go.Am.Eu
abbrev Pf:=Sc×zA×Int×Int
abbrev QB(x:zA×Int×Int):List E:=[D x.1,J x.2.1,J x.2.2]
def PK(x:Pf):Prop:=LQ x.1/\wt x.2.1<bz/\0<=x.2.2.1/\0<=x.2.2.2
def DQ:Tree:=.mk 0 zT 0 []
end Go.Am.Eu
namespace Go.Proofs.YtpeialehpoilbaaGreat
def F150:Z.f 150=O f150:=by kernel_rfl
def F110:Z.f 110=O f110:=by kernel_rfl
def ZX:∃f:Pf->Int,aJ Z prog 109 PK (λx=>li x.1::QB x.2) (λx=>J (f x))/\∀x,PK x->f x=0->kX x.2.2.1 x.2.2.2 0 0 x.2.1=0:=by refine iC J (λ(x:Pf) v=>v=0->kX x.2.2.1 x.2.2.2 0 0 x.2.1=0) λ⟨s,t,v,p⟩⟨g,a,h,i⟩=>?_;let⟨f,j⟩:=alF;let⟨C,k,b,d⟩:=LM Tx (λx y e=>iU.He e) j stI (by decide);have b:∀n m,af Z C n (aj 21 [D t,J v,J p,J 0,J 0] m)=.r (J (kX v p 0 0 t)) m U:=λn m=>b n ⟨t,v,p,0,0⟩ m ⟨by have a:wt t<bz:=a;show wt t<ao;unfold bz at a;unfold ao;omega,h,i,xW 0,xW 0⟩;have d:=λn m=>d n (s,t) m ⟨g,a⟩;refine jq (T:=Z) tok C k (.Cs (SS s) (.Cs (bg t) pZ)) (λ_=>.Gd rfl) 5 F109 rfl rfl ?_;by_cases c:kX v p 0 0 t=0<;>simp[bC F109,f109,b,d,c]
@[simp] theorem aHu(t:Tree):fO (dU t)=dU t:=by show yu ⟨(du t).map dj⟩=_;rw[iH];show _=yu ⟨du t⟩;rw[iH];simp only[xK,xn,acG,abO,aaR,acF,N7,List.map_nil]
def avi:fO (aAg z8)=dU DQ:=rfl
theorem ata:dX λt:Tree=>[dU t,dU DQ]:=λx y e=>by simp[dU]at e;exact CB e
def aoB:∃f:Tree->Bool,aJ Z prog 150 (λ_=>True) (λt=>[dU t,dU DQ]) (λx=>zP (f x)):=by
 let⟨f,l⟩:=Ts;let⟨C,o,c⟩:=Dp l W1;refine qi zP λt _=>(jq (T:=Z) (Q:=λ_=>True) tok C o (.Cs (Cy t) (.Cs (Cy _) .Nl)) (λ_=>.Gd rfl) 5 F150 rfl rfl ?_).imp λ_ h=>h.2;have c:=λn m=>c n t.body m trivial;have b:DQ.kind=0:=rfl;have d:DQ.var=0:=rfl;have e:DQ.body=zT:=rfl;have j:DQ.cb=[]:=rfl;generalize DQ=a at b d e j;by_cases c1:t.kind=0;case neg=>simp[bC F150,f150,c1,b]
 by_cases g:t.var=0;case neg=>simp[bC F150,f150,c1,g,b,d]
 cases c3:f t.body
 .simp[bC F150,f150,c1,g,c3,c,b,d,e]
 by_cases c4:I t.cb=0;case neg=>simp[bC F150,f150,c1,g,c3,c4,c,b,d,e,j]
 simp[bC F150,f150,c1,g,c3,c4,c,b,d,e,j];refine forA 0 0 (λi k h=>h=(H.e.w (ad (du t) 145)).w (ad (du a) 145)/\aa k 2 (pB 0)/\aa k 5 (J 0)) ⟨rfl,by simp,by simp⟩ (by omega) (by omega) (λi _ _ _ h=>absurd h (x9 i)) ?_;rintro k h m ⟨rfl,p,q⟩-;simp[p,q,c4]
abbrev z10:List E:=[zN ⟨#[]⟩,zP G,J 0,J 0,J 0,zN ⟨#[]⟩,zL U 0 0,zL U 0 0,J 0,zL U 0 0]
def IZ(x:ByteArray×Bool×Tree):List E:=zN x.1::zP x.2.1::du x.2.2
section
variable(x:ByteArray×Bool×Tree)
def Ef:ah (gA x)=IZ x:=rfl
@[simp] theorem aHv:zE Z 177 (IZ x) 0=O (gA x):=art x
@[simp] theorem aHw:zE Z 9 (IZ x) 0=O (zN x.1):=ars x
@[simp] theorem aDx:zE Z 4 (IZ x) 1=O (zP x.2.1):=amg x
@[simp] theorem aHx:zE Z 145 (IZ x) 2=O (dU x.2.2):=ab6 x
end
def avj(x:ByteArray×Bool×Tree){g:Bool}(a:ae h k (K z10 t g)):zG Z h 177 (gA x) (pB k)=O (h.p k (K (IZ x) t g)):=by rw[dY (v:=gA x) (n:=10) (off:=0) Uu (Qa.len x) (Qa.one x) a (by show 10<=10;omega)];simp[-Ai,Ef]
abbrev Pg:=Sc×Tree×Int×Int
abbrev QC(x:Tree×Int×Int):List E:=[dU x.1,J x.2.1,J x.2.2]
def orI:dX λx:Pg=>li x.1::QC x.2:=λ⟨a,b,c,d⟩⟨f,g,h,i⟩ e=>by simp[dU]at e;rw[Tv e.1,CB e.2.1,e.2.2.1,e.2.2.2]
def otI:dX λx:Pf=>li x.1::QB x.2:=λ⟨a,b,c,d⟩⟨f,g,h,i⟩ e=>by simp at e;rw[Tv e.1,cf e.2.1,e.2.2.1,e.2.2.2]
def atb:dX λx:zB×Nat=>[bI x.1,J x.2]:=λ⟨a,b⟩⟨c,d⟩ e=>by simp at e;rw[Af e.1,show b=d by omega]
structure LS(x:Pg):Prop where
 sc:LQ x.1
 fx:∀d∈x.1.1,0<=d.f/\d.f<=2097152
 pw:0<=x.1.2.2.p/\x.1.2.2.p<=8
 wt:gZ x.2.1<bz
 bU:0<=x.2.2.2
 vars:0<=x.2.2.1/\x.2.2.1<=4194304*(x.2.2.2+1)
@[simp] theorem abP(l:List ByteArray):dj (bL l)=bL l:=Ep zN l
@[simp] theorem aIf(s:Sc):fO (li s)=li s:=by
  show yu ⟨dj (bw s.1)::dj (bL s.2.1)::(cN s.2.2).map dj⟩=_
  rw[SU,abP,N7];rfl
def alK:∃f:Pg->Int,aJ Z prog 110 LS (λx=>li x.1::QC x.2) (λx=>J (f x))/\∀x,LS x->f x=0->x.2.2.2<200/\mr x.1.2.2.p.toNat (200-x.2.2.2).toNat x.2.1:=by
 refine abL J (λ(x:Pg) v=>v=0->x.2.2.2<200/\mr x.1.2.2.p.toNat (200-x.2.2.2).toNat x.2.1) (λx=>gZ x.2.1) λ⟨s,t,v,p⟩⟨y,IP,a,ht,hp,hv⟩ f hf hQ=>?_;let⟨f1,W5,o⟩:=ZX;let⟨f2,W6⟩:=abN;let⟨f3,hf3,hQ3⟩:=Tu;let⟨f4,hf4⟩:=aoB;let⟨f5,hf5,hQ5⟩:=alG;have hp:0<=p:=hp;have hv:0<=v/\v<=4194304*(p+1):=hv;have ht:gZ t<2097152:=ht;have y:LQ s:=y;have hw:=T7 t;have hl:=SP t.cb;let⟨C,hC,k1,Q,u,k4,k5,k6⟩:=awW W5 otI W6 DN hf3 UN hf4 ata hf5 atb hf orI (by decide);have hwb:wt t.body<bz:=by unfold bz;omega
 have k1:=k1 (s,t.body,v,s.2.2.p) ⟨y,hwb,hv.1,a.1⟩ [li s,D t.body,J v,J s.2.2.p] (by simp);have o:=o (s,t.body,v,s.2.2.p) ⟨y,hwb,hv.1,a.1⟩;have Q:=Q t.body trivial [D t.body] (by simp);refine jq (T:=Z) tok C hC (.Cs (SS s) (.Cs (Cy t) pZ)) (λ_=>.Gd rfl) 5000000 F110 rfl rfl ?_;by_cases l:200<=p
 .simp[bC F110,f110,l]
 have cA:p<200:=by omega
 by_cases c1:t.kind=0
 .by_cases k:t.var=0;case neg=>simp[bC F110,f110,l,c1,k,an]
  by_cases c3:0<I t.cb
  .simp[bC F110,f110,l,c1,k,c3,an]
  simp[bC F110,f110,l,c1,k,c3,an,k1];exact λh=>⟨cA,.leaf (by rw[c1];decide) ((Ji (o h)).1.imp λt q=>q.W4 a.1 (by have:=a.2;show s.2.2.p<=1000;have h8:s.2.2.p<=8:=a.2;omega)) (by have:=(Ji (o h)).2;show zD t.body<=5000;have h9:zD t.body<=4096:=this;omega)⟩
 by_cases k:t.kind=1;case neg=>simp[bC F110,f110,l,c1,k,an]
 cases c3:f2 t.body
 .simp[bC F110,f110,l,k,c3,an,Q]
 by_cases c4:t.var<0
 .simp[bC F110,f110,l,k,c3,c4,an,Q]
 by_cases c5:v<=t.var
 .simp[bC F110,f110,l,k,c3,c4,c5,an,Q]
 by_cases c6:32<I t.cb
 .simp[bC F110,f110,l,k,c3,c4,c5,c6,an,Q]
 simp[bC F110,f110,l,k,c3,c4,c5,c6,an,Q];have ed:(200-p).toNat=(200-(p+1)).toNat+1:=by omega
 have e1:zx.wrap (p+1)=p+1:=by simp[xQ,xJ,y9];omega
 refine forA (I t.cb) 0 (λi R h=>h.b=0/\2<=h.n/\ae h 0 (ad (xl s) 182)/\ae h 1 (ad (du t) 145)/\aa R 2 (J v)/\aa R 3 (J p)/\aa R 4 (pB 0)/\aa R 5 (pB 1)/\aa R 9 (J i)/\
  ∀j(hj:j<I t.cb),j<i->t.cb[j].2.1=G->mr s.2.2.p.toNat (200-(p+1)).toNat t.cb[j].2.2) ⟨by simp,by simp,by simp,by simp,by simp,by simp,by simp,by simp,by simp,λ_ _ h=>by cases h⟩ (by omega) (by omega) ?_ ?_
 .rintro i R h m A ⟨F,nx,S,L,t2,t3,V,M,N,hj⟩-e2;have hbw:=SO (zW A);have up:=λq=>upto (p:=λb:ByteArray×Bool×Tree=>b.2.1=G->mr s.2.2.p.toNat (200-(p+1)).toNat b.2.2) A hj q;have s1:=λ(h:H)(B:Nat)(q:ae h B (ad z10 177))=>avj t.cb[i] q;have s2:=λ(h:H)(B:Nat)(x:cK)(q:ae h B (ad z9 163))=>mS (x:=x) q rfl;have u:∀n m,af Z C n (aj 108 [bw s.1,zN t.cb[i].1] m)=.r (It (f3 (s.1,t.cb[i].1))) m U:=u (s.1,t.cb[i].1) y.1 _ (by simp);have hF:=hQ3 (s.1,t.cb[i].1) y.1;have k4:∀n m,af Z C n (aj 150 [dU t.cb[i].2.2,aAg z8] m)=.r (zP (f4 t.cb[i].2.2)) m U:=k4 t.cb[i].2.2 trivial _ (by simp;exact avi);generalize f3 (s.1,t.cb[i].1)=r at u hF;let⟨x,n⟩:=r;have n0:¬0=h.n:=by omega
  have n1:¬1=h.n:=by omega
  have n01:¬0=h.n+1:=by omega
  have n11:¬1=h.n+1:=by omega
  have lA:h.n<h.n+1+1:=by omega
  have lB:0<h.n+1+1:=by omega
  have lC:1<h.n+1+1:=by omega
  by_cases c7:n=0;case neg=>simp[-Ai,Ef,F,S,L,V,M,N,A,u,s1,s2,n0,c7]
  by_cases c8:x.kind=4;case neg=>simp[-Ai,Ef,F,S,L,V,M,N,A,u,s1,s2,n0,c7,c8]
  let⟨g,P,q1,q2,c,W⟩:=hF.Di c7 c8;have q1:x.decl=g:=q1;have q2:x.item=P:=q2;have c:g<I s.1:=c;have W:P<I s.1[g].aY:=W;cases c9:t.cb[i].2.1
  .have hm:=Bm (f:=dH) (zW c);have hF5:dH s.1[g]<bz/\(0<=s.1[g].f/\s.1[g].f<=2097152)/\P<I s.1[g].aY:=⟨xN hm y.1,IP _ (zW c),W⟩;have k5:∀n m,af Z C n (aj 151 [bI s.1[g],J P] m)=.r (J (f5 (s.1[g],P))) m U:=k5 (s.1[g],P) hF5 _ (by simp);have X:=hQ5 (s.1[g],P) hF5;generalize f5 (s.1[g],P)=w at k5 X;have X:0<=w/\w<=2097152:=X;have e3:zx.wrap (v+w)=v+w:=by simp[xQ,xJ,y9];omega
   have hOr:gZ t.cb[i].2.2<gZ t/\LS (s,t.cb[i].2.2,v+w,p+1):=⟨by omega,y,IP,a,by show gZ t.cb[i].2.2<2097152;omega,by show 0<=p+1;omega,by show 0<=v+w/\v+w<=4194304*(p+1+1);omega⟩;have k6:∀n m,af Z C n (aj 110 [li s,dU t.cb[i].2.2,J (v+w),J (p+1)] m)=.r (J (f (s,t.cb[i].2.2,v+w,p+1))) m U:=k6 (s,t.cb[i].2.2,v+w,p+1) hOr _ (by simp);have hQ6:=hQ (s,t.cb[i].2.2,v+w,p+1) hOr.1 hOr.2;by_cases d:f (s,t.cb[i].2.2,v+w,p+1)=0;case neg=>simp[-Ai,Ef,F,S,L,t2,t3,V,M,N,A,u,s1,s2,n0,lA,lB,c7,c8,c9,d,q1,q2,c,k5,k6,e1,e3]
   simp[-Ai,Ef,F,S,L,t2,t3,V,M,N,A,u,s1,s2,n0,n1,lA,lB,c7,c8,c9,d,q1,q2,c,k5,k6,e1,e2,e3];exact⟨by simp[show¬h.n=0 by omega],up λ_=>(hQ6 d).2⟩
  .cases d:f4 t.cb[i].2.2
   .simp[-Ai,Ef,F,S,L,V,M,N,A,u,k4,s1,s2,n0,OA,c7,c8,c9,d]
   simp[-Ai,Ef,F,S,L,t2,t3,V,M,N,A,u,k4,s1,s2,n0,n1,OA,c7,c8,c9,d,e2];exact⟨by simp[show¬h.n=0 by omega],up λe=>by rw[c9]at e;cases e⟩
 .rintro R h m ⟨F,nx,S,L,t2,t3,V,M,N,hj⟩-;simp[F,L,M,N];exact⟨cA,by rw[ed];exact .split k (by omega) (AI (p:=λb:ByteArray×Bool×Tree=>b.2.1=G->mr s.2.2.p.toNat (200-(p+1)).toNat b.2.2) λj h _=>hj j h h)⟩
end Go.Proofs.YtpeialehpoilbaaGreat
namespace Go.Am
section
variable{T:au}{P:zo}
def RE{d :List E}{h A:H}(u:bP T P (zU (za f) #[] #[]) d H.e U (.r N H.e U))(hr:∀{m m':M}{v:E},VR m N v->VR m' N v)(Q:Le h A)
 (hI:∀{x m C w},Inv T x m C h w->Inv T x m C A w)(ht:∀b o,B b=O o->ae h b o/\∀x,Fin x A->x.cX b)(hd:eV B p d):bP T P (zU (za f) #[] #[]) p h U (.r N A U):=by
 intro h' pj s;injection s with s;cases s;let⟨_,u⟩:=u H.e U rfl;refine⟨Q,λx m C n f' t R w hK F i hv hl S hk=>?_⟩
 have V:LR (po w) d t:=LR.Bx i (λb o L=>⟨(ht b o L).1,(ht b o L).2 x F⟩) (λc l u=>by let⟨⟨e,j,k⟩,_⟩:=i.de c l u;exact Hr k) (λb pl c e j _ _ hw=>Hr hw) hd hl
 have W:f'=zU (za f) #[] #[]:=by
  cases hv with
  |func _ a b=>cases a;cases b;rfl
 subst W;replace i:=hI i
 let⟨nx,X,k1,k2,m',dW,y,w',cr,k3,k4,k5,k6,k7,k8⟩:=u ⟨w,po w,λ_=>U,0,0,λ_=>True,λ_=>True,λc=>c<w.heap.size⟩ (po w) (λ_=>U) n _ t R w hK
  ⟨zR _,λ_ _=>⟨trivial,trivial⟩,λ_ _=>trivial,λ_ _=>trivial,λ_ _=>trivial⟩ (abZ 0 w) (.func f .Nl .Nl) V (by cases S;exact .none) hk
 have hold:∀c,c<w.heap.size->w'.heap[c]?=w.heap[c]?:=k4.cD;refine⟨nx,X,k1,k2,m,C,y,w',cr,.refl _,?_,(by cases k5;exact .none),k6,?_,k8⟩
 .exact
  {obj:=λb o L=>by let⟨pl,o',q1,q2,q3⟩:=i.obj b o L;exact⟨pl,o',q1,by rw[hold _ (zd.1 q2).1];exact q2,q3⟩
   inj:=i.inj
   ez:=i.ez
   cD:=λc u=>by have:=i.size;have:=i.ez c u;rw[hold c (by omega)];exact i.cD c u
   size:=Nat.le_trans i.size k4.size,eC:=i.eC,same:=i.same.trans k4.same,fy:=i.fy,dy:=i.dy,fresh:=i.fresh,fY:=i.fY,gj:=i.gj,gm:=i.gm,gv:=i.gv,ie:=i.ie
   de:=λc l u=>by let⟨⟨e,j,k⟩,q⟩:=i.de c l u;exact⟨⟨e,j,by rw[hold _ (zd.1 k).1];exact k⟩,q⟩
   fD:=i.fD}
 .cases k7 with
  |ret mF=>exact .ret (hr mF)
def Jk(a:ground N=Y){b:M}(h:VR u N v):VR b N v:=by have:=h.ground a;subst this;exact VR.I0 a λ_ _ _=>trivial
def rh:E->Option Nat
 |.agg ⟨_::zL (O ⟨b,_,_⟩) _ _::_⟩=>O b
 |_=>U
def Iu(h:H):Option Nat->H
 |some b=>h.az b
 |none=>h
def FE(h:H):Option Nat->Nat->Option ai
 |some b,j=>if j=b then h.g j else U
 |none,_=>U
def alL{d :List E}{h:H}(o:Option Nat)(e:bP T P (zU (za f) #[] #[]) d H.e U (.r v H.e U))(i:ground v=Y)(j:eV (FE h o) l d):bP T P (zU (za f) #[] #[]) l h U (.r v (Iu h o) U):=by
 cases o with
 |none=>exact RE e (Jk i) (.refl _) (λa=>a) (λb o c=>by cases c) j
 |some B=>exact RE e (Jk i) (jP h B) (λa=>a.az B) (λb o c=>by
   replace c:(if b=B then h.g b else U)=O o:=c
   split at c
   .rename_i q;subst q;exact⟨c,λk F=>(ma h b).elim (λx=>(F.hi b x).1) (λx=>F.rd b x)⟩
   .cases c) j
open Classical in
def Dr{c e:Type}(a:A->E->Prop)(d:A×c->Prop)(b:A->E)(iK:c->List E)(r:e->E)(f:A×c->e)(args:List E)(h:H):Option ag:=
 if g:∃x:A×c×E×E,d (x.1,x.2.1)/\args=x.2.2.1::iK x.2.1/\ej (FE h (rh x.2.2.1)) x.2.2.1 x.2.2.2/\fO x.2.2.2=b x.1/\a x.1 x.2.2.1 then O (.r (r (f ((yE g).1,(yE g).2.1))) (Iu h (rh (args.headD undef))) U)else U
def acH{l p:Type}{i:A->E->Prop}{k:A×l->Prop}{j:A->E}{iK:l->List E}{r:p->E}{c:A×l->p}(v:aR T P C)(w:∀n,ground (r n)=Y)(q:∀b,bX (iK b)/\(iK b).map fO=iK b)
 (y:aJ T P f k (λx=>j x.1::iK x.2) (λx=>r (c x))):aR T P (bY f (Dr i k j iK r c) C):=by
 intro t args h a e;by_cases u:t=f
 .subst u;rw[gC]at e;unfold Dr at e;split at e
  .rename_i B;cases e
   have m:∀x:A×l×E×E,(k (x.1,x.2.1)/\args=x.2.2.1::iK x.2.1/\ej (FE h (rh x.2.2.1)) x.2.2.1 x.2.2.2/\fO x.2.2.2=j x.1/\i x.1 x.2.2.1)->bP T P (zU (za t) #[] #[]) args h U (.r (r (c (x.1,x.2.1))) (Iu h (rh (args.headD undef))) U):=by rintro⟨s,b,S,d⟩ ⟨F,rfl,L,o,-⟩;have o:fO d=j s:=o;exact alL (d:=d::iK b) (rh S) (Yh (by rw[xK,o,(q _).2];exact y _ F H.e)) (w _) (.Cs L (eV.pure (q _).1))
   exact m _ (zk B)
  .cases e
 .rw[jk u]at e;exact v _ _ _ _ e
abbrev W7(T:au)(C:aV){h j:Type}(g:zZ)(a:A->E->Prop)(c:A×h->Prop)(e:A->E)(iK:h->List E)(r:j->E)(f:A×h->j):Prop:=∀(s:A)(b:h)(S d:E)(m:H),c (s,b)->ej (FE m (rh S)) S d->fO d=e s->a s S->
 ∃i,c (i,b)/\a i S/\∀n,af T C n (aj g (S::iK b) m)=.r (r (f (i,b))) (Iu m (rh S)) U
def acI{j o:Type}{a:A->E->Prop}{i:A×j->Prop}{h:A->E}{iK:j->List E}{r:o->E}{c:A×j->o}(t:C f=Dr a i h iK r c)(u:dX iK):W7 T C f a i h iK r c:=λs b S d m v w y B=>by
 have k:∃x:A×j×E×E,i (x.1,x.2.1)/\S::iK b=x.2.2.1::iK x.2.1/\ej (FE m (rh x.2.2.1)) x.2.2.1 x.2.2.2/\fO x.2.2.2=h x.1/\a x.1 x.2.2.1:=⟨(s,b,S,d),v,rfl,w,y,B⟩;let⟨p,l,q3,q4,q⟩:=zk k;have e:(yE k).2.1=b:=(u _ _ (by injection l)).symm;have F:(yE k).2.2.1=S:=by injection l with l;exact l.symm
 rw[e]at p;rw[F]at q;refine⟨_,p,q,λn=>ji n ?_⟩;rw[t];unfold Dr;rw[dif_pos k,e];rfl
end
end Go.Am
namespace Go.Am.Eu
structure PL(d:zB):Prop where
 type:d.k≠4->kX 0 d.p 0 0 d.t=0
 value:d.k=1->kX 0 d.p 0 0 d.v=0
 rules:d.k=3->∀r∈d.bD.rules,kX 0 d.bD.params 0 0 r=0
 bk:d.k=4->∀f∈d.bk,mr d.p.toNat 200 f.tree
abbrev jJ(env:List zB)(W:E)(d:zB):List E:=bw env::W::cN d
end Go.Am.Eu
namespace Go.Proofs.YtpeialehpoilbaaGreat
def F85:Z.f 85=O f85:=by kernel_rfl
def PM(s:Sc):E->Prop
 |.agg ⟨_::_::_::_::p::_⟩=>p=J s.2.2.p
 |_=>False
abbrev dR:E:=zL U 0 0
section
variable(env:List zB)(W:E)(d:zB)(h:H)
@[simp] theorem aJr:zero Z 182=O (aAg [dR,dR,J 0,zN ⟨#[]⟩,J 0,J 0,J 0,zN ⟨#[]⟩,dR,dR,J 0,J 0,zN ⟨#[]⟩,dR,dR,J 0,dR,J 0,J 0,J 0,zN ⟨#[]⟩,dR,dR,dR,dR]):=by kernel_rfl
def atc:eK Z h 182 (O (aAg [dR,dR,J 0,zN ⟨#[]⟩,J 0,J 0,J 0,zN ⟨#[]⟩,dR,dR,J 0,J 0,zN ⟨#[]⟩,dR,dR,J 0,dR,J 0,J 0,J 0,zN ⟨#[]⟩,dR,dR,dR,dR])) (O [(0,bw env),(2,bI d)])=.v (aAg (jJ env dR d)) h:=by kernel_rfl
def rW:zE Z 182 (jJ env W d) 0=O (aAg (jJ env W d)):=by rw[fV ado UO];rfl
def adp{c:List E}{e:zQ}{g:Bool}(a:ae h k (K c e g))(f:I c=25):zG Z h 182 (aAg (jJ env dR d)) (pB k)=O (h.p k (K (jJ env dR d) e g)):=by rw[dY (v:=aAg (jJ env dR d)) (n:=25) (off:=0) UO rfl rfl a (by omega),List.take_zero,List.nil_append,List.drop_eq_nil_of_le (by omega),ye];rfl
def LU{b:Nat}{V:E}{e:zQ}{g:Bool}(c:ae h b (K (jJ env W d) e g))(a:ah V=[V])(f:da [V]=Y):zG Z h 24 V (zM (O ⟨b,1,U⟩))=O (h.p b (K (jJ env V d) e g)):=by rw[dY (v:=V) (n:=1) (off:=1) (show Am.zI Z 24=O 1 by kernel_rfl) (by rw[a];rfl) (by rw[a];exact f) c (by show 2<=25;omega),a];rfl
end
def aqZ:∃f:List zB×zB->Int,aJ Z prog 85 (λx=>eP x.1<bz/\dH x.2<bz/\(∀d∈x.1,0<=d.f/\d.f<=2097152)/\C7 x.2) (λx=>[bw x.1,bI x.2]) (λx=>J (f x))/\
 ∀x,(eP x.1<bz/\dH x.2<bz/\(∀d∈x.1,0<=d.f/\d.f<=2097152)/\C7 x.2)->f x=0->PL x.2:=by
 refine iC J (λ(x:List zB×zB) v=>v=0->PL x.2) λ⟨env,d⟩⟨he,hd,IP,N⟩=>?_;let⟨f1,W5,hQ1⟩:=ZX;let⟨f2,W6,hQ2⟩:=alK;have he:eP env<bz:=he;have hd:dH d<2097152:=hd;have N:C7 d:=N;have hw:=qP d;have hc:=EA d.aY;have hn:=EB d.bk;have hr:=Hc d.bD.rules;have oe:=RD d
 obtain⟨C,hC,k0,k1,k2⟩:∃C,aR Z prog C/\pA Z C 107 (λd=>dH d<bz) (λd=>[bI d]) (λd=>bL (bZ d))/\W7 Z C 109 PM PK li QB J f1/\W7 Z C 110 PM LS li QC J f2:=
  ⟨bY 109 (Dr PM PK li QB J f1) (bY 110 (Dr PM LS li QC J f2) (bY 107 (pf (gq (λd=>dH d<bz) (λd=>[bI d]) (λd=>bL (bZ d)))) cg)),acH (acH (pD (aZ aW SR)) (λ_=>rfl) (λb=>⟨.Cs (Cy _) (.Cs (.Gd rfl) (.Cs (.Gd rfl) .Nl)),by simp⟩) W6) (λ_=>rfl) (λb=>⟨.Cs (bg _) (.Cs (.Gd rfl) (.Cs (.Gd rfl) .Nl)),by simp⟩) W5,qk E9 (by funext a h;simp[bY]),acI (by funext a h;simp[bY]) (λ⟨a,b,c⟩⟨a',b',c'⟩ e=>by simp at e;rw[cf e.1,e.2.1,e.2.2]),acI (by funext a h;simp[bY]) (λ⟨a,b,c⟩⟨a',b',c'⟩ e=>by simp[dU]at e;rw[CB e.1,e.2.1,e.2.2])⟩
 have k0:=k0 d hd [bI d] (by simp);let R:E->H->Prop:=λW h=>∃w:List ByteArray,I w<=bz/\∃o,ej (FE h (rh (aAg (jJ env W d)))) (aAg (jJ env W d)) o/\fO o=li (env,w,d)
 have t1:∀(W:E)(h h2:H)(t:zA)(p:Int),R W h->wt t<bz->0<=p->Iu h (rh (aAg (jJ env W d)))=h2->∃v:Int,(v=0->kX 0 p 0 0 t=0)/\∀n,af Z C n (aj 109 [aAg (jJ env W d),D t,J 0,J p] h)=.r (J v) h2 U:=by rintro W h _ t p ⟨w,ho,o,hD,hn⟩ ht hp rfl;obtain⟨s',xc,-,e⟩:=k1 (env,w,d) (t,0,p) (aAg (jJ env W d)) o h ⟨⟨he,ho,hd⟩,ht,xW 0,hp⟩ hD hn rfl;exact⟨_,hQ1 _ xc,e⟩
 have t2:∀(W:E)(h h2:H)(t:Tree)(a:Int),R W h->gZ t<bz->0<=a/\a<=16->Iu h (rh (aAg (jJ env W d)))=h2->∃v:Int,(v=0->mr d.p.toNat 200 t)/\∀n,af Z C n (aj 110 [aAg (jJ env W d),dU t,J a,J 0] h)=.r (J v) h2 U:=by rintro W h _ t a ⟨w,ho,o,hD,hn⟩ ht ha rfl;let⟨s',xc,hk,e⟩:=k2 (env,w,d) (t,a,0) (aAg (jJ env W d)) o h ⟨⟨he,ho,hd⟩,IP,N.pw,ht,xW 0,by show 0<=a/\a<=4194304*(0+1);omega⟩ hD hn rfl;have hk:J d.p=J s'.2.2.p:=hk;injection hk with _ hk;exact⟨_,λq=>by rw[hk];exact(hQ2 _ xc q).2,e⟩
 have w:∀(W W2:E)(w:List ByteArray)(h:H),I w<=bz->ej (FE h (rh (aAg (jJ env W d)))) W W2->dj W2=bL w->R W h:=λW W2 w h ho hW hn=>
  ⟨w,ho,aAg (jJ env W2 d),.agg (.Cs (.Pu (me env)) (.Cs hW (eV.pure (MZ d)))),by show yu ⟨dj (bw env)::dj W2::(cN d).map dj⟩=_;rw[SU,N7,hn];rfl⟩
 have X:∀h,R dR h:=λh=>w _ _ [] h (ya _) .cP rfl
 have awX:∀(h:H)(b:Nat),h.g b=O (K [zN d.n] 9 G)->R (zL (O ⟨b,0,U⟩) 1 1) h:=λh b u=>w _ (cp [zN d.n] 0 1 []) [d.n] h (by show 1<=2097152;decide)
  (.slice (pre:=[]) (post:=[]) (es:=[zN d.n]) (sz:=1) (e:=9) (gr:=G) (by show(if b=b then h.g b else U)=_;rw[if_pos rfl,u];rfl) rfl (λx hx=>by rw[List.mem_singleton.1 hx];rfl) rfl (zR _) (.Cs (.Pu (.Gd rfl)) .Nl)) rfl
 have aeb:∀h,R (bL (bZ d)) h:=λh=>w _ (bL (bZ d)) (bZ d) h (by show _<=2097152;omega) (.Pu (lj _)) (abP _)
 have Dr:∀h k,k<=I (bZ d)->R (cp ((bZ d).map zN) 0 k []) h:=λh k hk=>w _ (cp ((bZ d).map zN) 0 k []) ((bZ d).take k) h (by show _<=2097152;rw[wV];omega)
  (.Pu (.data _ _ _ _ (map_pure (λ_=>.Gd rfl) _))) (Sh zN (bZ d) hk)
 refine jq (T:=Z) tok C hC (.Cs (me env) (.Cs (kM d) .Nl)) (λ_=>.Gd rfl) 5000000 F85 rfl rfl ?_;rw[bC F85];let l:Nat->E->Am.Tr E->H->Prop:=λn W A h=>h.b=0/\h.n=n/\h.g 0=O (K (cN d) 38 G)/\h.g 1=O (K (jJ env W d) 182 G)/\A.g 3=O (pB 0)/\A.g 5=O (pB 1);refine aS (N':=λA h=>h=H.e.w (K (cN d) 38 G)/\A.g 0=O (bw env)/\A.g 3=O (pB 0)) (by simp) λA h⟨eh,t0,s⟩=>?_;subst eh;have s1:=λ(h:H)(c:List E)(q:h.g 1=O (K c 182 G))=>adp env d h q
 refine aS (N':=l 2 dR) (by simp[t0,s,atc];rw[adp env d _ (c:=[dR,dR,J 0,zN ⟨#[]⟩,J 0,J 0,J 0,zN ⟨#[]⟩,dR,dR,J 0,J 0,zN ⟨#[]⟩,dR,dR,J 0,dR,J 0,J 0,J 0,zN ⟨#[]⟩,dR,dR,dR,dR]) (e:=182) (g:=G) (by simp) rfl];simp[l,s]) λA h⟨u,F,y,M,s,B⟩=>?_
 refine aS (N':=λA h=>l 2 dR A h/\(d.k≠4->kX 0 d.p 0 0 d.t=0)) ?_ λA h⟨⟨u,F,y,M,s,B⟩,Gq⟩=>?_
 .by_cases c1:d.k=4
  .simp[u,y,s,B,c1,l];exact⟨F,M⟩
  let⟨v,hv,e⟩:=t1 dR h h d.t d.p (X h) (by show _<2097152;omega) N.pw.1 rfl;by_cases c2:v=0
  .simp[u,y,M,s,B,c1,rW,e,c2,l];exact⟨F,hv c2⟩
  .simp[u,y,M,s,B,c1,rW,e,c2]
 have P:∀{a:Nat},a<2097152->a<bz:=id;by_cases c0:d.k=0
 .simp[u,y,s,c0,an];exact⟨Gq,λq=>by omega,λq=>by omega,λq=>by omega⟩
 by_cases c1:d.k=1\/d.k=2
 .let⟨v,hv,e⟩:=t1 dR h h d.v d.p (X h) (P (by omega)) N.pw.1 rfl;have hT:v=0->PL d:=λq=>⟨Gq,λ_=>hv q,λq=>by omega,λq=>by omega⟩;rcases c1 with c1|c1<;>simp[u,y,M,s,B,c1,an,rW,e]<;>exact hT
 have P2:¬d.k=1:=λq=>c1 (zq q);have VC:¬d.k=2:=λq=>c1 (zt q);by_cases c3:d.k=3
 .have Cg:0<=d.bD.params:=by have:=(N.QA c3).1;have:=N.pw.1;omega
  have en:bZ d=d.n::(d.aY.map gM.name++[d.n++ra]):=by unfold bZ;rw[if_neg (by omega),if_pos c3]
  have s2:=λ(W V:E)(h:H)(q:h.g 1=O (K (jJ env W d) 182 G))(h1:ah V=[V])(h2:da [V]=Y)=>LU env W d h q h1 h2;simp[u,y,F,s,B,c3,an,B1];rw[LU env dR d (h.w (K [zN d.n] 9 G)) (b:=1) (e:=182) (g:=G) (by simp[F,M]) rfl rfl];simp;refine Hm (forA (I d.aY) 0 (λi A h=>l 3 (zL (O ⟨2,0,U⟩) 1 1) A h/\h.g 2=O (K [zN d.n] 9 G)/\A.g 7=O (J i)) ⟨⟨by simp[u],by simp[F],by simp[F,y],by simp,by simp[s],by simp[B]⟩,by simp[F],by simp⟩ (by omega) (by omega) ?_ ?_)
  .rintro i A h m Q ⟨⟨u,F,y,M,s,B⟩,g2,t7⟩-e2;have hx:=Ka (zW Q);let⟨v,hv,e⟩:=t1 (zL (O ⟨2,0,U⟩) 1 1) h.f (h.f.az 2) d.aY[i].type d.p (awX _ 2 (by simp[g2])) (P (by omega)) N.pw.1 rfl;by_cases S:v=0<;>simp[bC F85,f85,u,F,y,M,g2,s,B,t7,Q,e2,rW,e,S,l]
  rintro A h m ⟨⟨u,F,y,M,s,B⟩,g2,t7⟩-;have hL:I (bZ d)=I d.aY+2:=by rw[en];simp
  obtain⟨L,Wi⟩:∃L,I (bZ d)=L+1:=⟨_,hL⟩;have eL:zx.wrap ((I (bZ d):Int)-1)=(L:Int):=by simp[xQ,xJ,y9];omega
  have sA:=λ(h:H)(q:h.g 1=O (K (jJ env (zL (O ⟨2,0,U⟩) 1 1) d) 182 G))=>LU env _ d h (V:=cp ((bZ d).map zN) 0 L []) q rfl rfl;have sB:=λ(h:H)(q:h.g 1=O (K (jJ env (cp ((bZ d).map zN) 0 L []) d) 182 G))=>LU env _ d h (V:=bL (bZ d)) q rfl rfl;let h4:=h.p 1 (K (jJ env (cp ((bZ d).map zN) 0 L []) d) 182 G);let⟨v,hv,e⟩:=t1 (cp ((bZ d).map zN) 0 L []) h4 h4 d.bD.type d.bD.params (Dr _ L (by omega)) (P (by omega)) Cg rfl;by_cases S:v=0;case neg=>simp[bC F85,f85,u,y,M,s,B,t7,k0,eL,Tw (show L<=I (bZ d) by omega),bounds,iV,sA,rW,e,h4,S]
  simp[bC F85,f85,u,y,M,s,B,t7,k0,eL,Tw (show L<=I (bZ d) by omega),bounds,iV,sA,sB,rW,e,h4,S];refine UL (I d.bD.rules) 0 (λi A h=>l 3 (bL (bZ d)) A h/\A.g 11=O (J i)/\∀j(hj:j<I d.bD.rules),j<i->kX 0 d.bD.params 0 0 d.bD.rules[j]=0) ⟨⟨by simp[u],by simp[F],by simp[y],by simp,by simp[s],by simp[B]⟩,by simp,λ_ _ h=>by cases h⟩ (by omega) (by omega) ?_ ?_
  .rintro i A h m Q ⟨⟨u,F,y,M,s,B⟩,t11,hj⟩-e2;have hx:=HB (zW Q);let⟨v,hv,e⟩:=t1 (bL (bZ d)) h.f h.f d.bD.rules[i] d.bD.params (aeb _) (P (by omega)) Cg rfl;by_cases S:v=0
   .simp[u,F,y,M,s,B,t11,Q,e2,rW,e,S,l];exact upto (p:=λr:zA=>kX 0 d.bD.params 0 0 r=0) Q hj (hv S)
   .simp[u,F,y,M,s,B,t11,Q,rW,e,S,l]
  rintro A h m ⟨⟨u,F,y,M,s,B⟩,t11,hj⟩-;simp[u,y,s,t11];exact⟨Gq,λq=>by omega,λ_=>AI (p:=λr:zA=>kX 0 d.bD.params 0 0 r=0) λj h _=>hj j h h,λq=>by omega⟩
 by_cases c4:d.k=4
 .simp[u,y,s,c4,an];refine Hm (forA (I d.bk) 0 (λi A h=>l 2 dR A h/\A.g 13=O (J i)) ⟨⟨u,F,y,M,by simp[s],by simp[B]⟩,by simp⟩ (by omega) (by omega) ?_ ?_)
  .rintro i A h m Q ⟨⟨u,F,y,M,s,B⟩,t13⟩-e2;have hx:=N6 (zW Q);let⟨v,hv,e⟩:=t1 dR h.f h.f d.bk[i].type d.p (X _) (P (by omega)) N.pw.1 rfl;by_cases S:v=0<;>simp[bC F85,f85,u,F,y,M,s,B,t13,Q,e2,rW,e,S,l]
  rintro A h m ⟨⟨u,F,y,M,s,B⟩,t13⟩-;simp[bC F85,f85,u,y,s,B,t13,k0];rw[LU env dR d h (b:=1) (e:=182) (g:=G) M rfl rfl];simp;refine UL (I d.bk) 0 (λi A h=>l 2 (bL (bZ d)) A h/\A.g 15=O (J i)/\∀j(hj:j<I d.bk),j<i->mr d.p.toNat 200 d.bk[j].tree) ⟨⟨by simp[u],by simp[F],by simp[y],by simp,by simp[s],by simp[B]⟩,by simp,λ_ _ h=>by cases h⟩ (by omega) (by omega) ?_ ?_
  .rintro i A h m Q ⟨⟨u,F,y,M,s,B⟩,t15,hj⟩-e2;have hx:=N6 (zW Q);have ha:=N.bk _ (zW Q);let⟨v,hv,e⟩:=t2 (bL (bZ d)) h.f h.f d.bk[i].tree d.bk[i].arity (aeb _) (P (by omega)) (by omega) rfl;by_cases S:v=0
   .simp[u,F,y,M,s,B,t15,Q,e2,rW,e,S,l];exact upto (p:=λf:fR=>mr d.p.toNat 200 f.tree) Q hj (hv S)
   .simp[u,F,y,M,s,B,t15,Q,rW,e,S,l]
  rintro A h m ⟨⟨u,F,y,M,s,B⟩,t15,hj⟩-;simp[u,y,s,t15];exact⟨Gq,λq=>by omega,λq=>by omega,λ_=>AI (p:=λf:fR=>mr d.p.toNat 200 f.tree) λj h _=>hj j h h⟩
 simp[u,y,s,P2,VC,c3,c4,an];exact⟨Gq,λq=>by omega,λq=>by omega,λq=>by omega⟩
end Go.Proofs.YtpeialehpoilbaaGreat
namespace Go.Am.Eu
structure FF(env:List zB)(d:zB):Prop where
 kind:0<=d.k/\d.k<=4
 un:Go.Proofs.YtpeialehpoilbaaGreat.Gr d
 iM:Go.Proofs.YtpeialehpoilbaaGreat.C7 d
 names:∀n∈bZ d,∀d'∈env,n∉bZ d'
 avk:PL d
def QD(a:List zB):Prop:=∀d∈a,0<=d.f/\d.f<=2097152
def FF.fx{a:List zB}{d:zB}(h:FF a d)(b:dH d<bz):0<=d.f/\d.f<=2097152:=by
 refine⟨h.iM.fixed,?_⟩;have:=qP d;have:=Em d.t;unfold bz at b;by_cases k:d.k=3
 .have:=(h.iM.QA k).2;omega
 .have:=(h.un.PJ k).2.2.1;omega
def aoC(a:List zB)(i:Nat):eP (a.take i)<=eP a:=by
 have e:eP a=eP (a.take i)+eP (a.drop i):=by
  unfold eP;conv=>lhs;rw[<-List.take_append_drop i a]
  rw[xn,sZ]
 omega
structure s6(env:List zB):Prop where
 all:∀(i:Nat)(h:i<I env),FF (env.take i) env[i]
end Go.Am.Eu
namespace Go.Proofs.YtpeialehpoilbaaGreat
def F58:Z.f 58=O f58:=by kernel_rfl
def F36:Z.f 36=O f36:=by kernel_rfl
def F13:Z.f 13=O f13:=by kernel_rfl
theorem atd:∃f:List zB×zB->Int,aJ Z prog 58 (λx=>eP x.1<bz/\dH x.2<bz/\QD x.1) (λx=>[bw x.1,bI x.2]) (λx=>J (f x))/\∀x,(eP x.1<bz/\dH x.2<bz/\QD x.1)->f x=0->FF x.1 x.2:=by
 refine iC J (λ(x:List zB×zB) v=>v=0->FF x.1 x.2) λ⟨a,d⟩⟨h,b,j⟩=>?_
 let⟨F,r,s⟩:=aov
 let⟨f2,t,u⟩:=aow
 let⟨f3,w,c⟩:=aqY
 let⟨f4,y,e⟩:=aqZ
 let⟨C,H,i,k,p,A⟩:=ad7 r E9 t E9 w W3 y W3 (by decide)
 have h:eP a<bz:=h
 have b:dH d<bz:=b
 have i:=λn m=>i n d m trivial
 have k:=λn m=>k n d m b
 have p:=λn m=>p n (a,d) m ⟨h,b⟩
 have c:=c (a,d) ⟨h,b⟩
 refine jq (T:=Z) tok C H (.Cs (me a) (.Cs (kM d) .Nl)) (λ_=>.Gd rfl) 5 F58 rfl rfl ?_
 by_cases c1:d.k<0
 .simp[bC F58,f58,c1]
 by_cases l:4<d.k
 .simp[bC F58,f58,c1,l]
 cases o:F d
 .simp[bC F58,f58,c1,l,o,i]
 by_cases c4:f2 d=0
 case neg=>simp[bC F58,f58,c1,l,o,c4,i,k]
 have g:=u d b c4
 have A:=λn m=>A n (a,d) m ⟨h,b,j,g⟩
 have e:=e (a,d) ⟨h,b,j,g⟩
 by_cases B:f3 (a,d)=0
 case neg=>simp[bC F58,f58,c1,l,o,c4,B,i,k,p]
 simp[bC F58,f58,c1,l,o,c4,B,i,k,p,A]
 exact λq=>⟨⟨by omega,by omega⟩,s d o,g,c B,e q⟩
def abQ{l:List zB}(a:k<=I l):rO Z h 22 (O (bw l)) (O U) (O (O (J k))) (O U)=.v (cp (l.map bI) 0 k []) h:=adn (by kernel_rfl) Fo a
def Vk:dX λl:List zB=>[bw l]:=λx y e=>by simp at e;exact pF e
abbrev PN(x:Int×Int):E:=aTu [J x.1,J x.2]
def aq0:∃f:List zB->Int×Int,aJ Z prog 36 (λl=>eP l<bz) (λl=>[bw l]) (λx=>PN (f x))/\∀l,eP l<bz->(f l).2=0->s6 l:=by
 refine iC PN (λ(l:List zB) v=>v.2=0->s6 l) λc s=>?_;let⟨f,L,M⟩:=atd;let⟨C,N,t⟩:=ad8 L W3;have hl:=Hl c;have P:eP c<2097152:=s;have o:∀(g:Am.Tr E)(h:H)(a b:Int),(b=0->s6 c)->aa g 2 (J a)->aa g 3 (J b)->Dq Z [.tmp 2,.tmp 3] PN (λv=>v.2=0->s6 c) g h:=λg h a b Q R S=>⟨(a,b),PN (a,b),h,by simp[R,S],.Pu (.Tt pZ),Q⟩;refine Is (T:=Z) tok C N (.Cs (me c) .Nl) 5000000 F36 rfl rfl ?_;by_cases c1:1000<I c
 .simp[bC F36,f36,c1];exact o _ _ 1000 6 (λq=>absurd q (by decide)) (by simp) (by simp)
 simp[bC F36,f36,c1];refine forA (I c) 0 (λi g h=>h.b=0/\aa g 0 (bw c)/\aa g 4 (J i)/\∀j(r:j<I c),j<i->FF (c.take j) c[j]) ⟨by simp,by simp,by simp,λ_ _ h=>by cases h⟩ (by omega) (by omega) ?_ ?_
 .rintro i g h m k ⟨B,u,w,r⟩-V;have W:=Bm (f:=dH) (zW k);have X:dH c[i]<bz:=xN W s
  have A:QD (c.take i):=λd hd=>by
   obtain⟨j,p,rfl⟩:=yk.1 hd;have e:j<i/\j<I c:=by simp at p;omega
   rw[List.getElem_take];exact(r j e.2 e.1).fx (xN (Bm (f:=dH) (zW e.2)) s)
  have F:eP (c.take i)<bz/\dH c[i]<bz/\QD (c.take i):=⟨xN (aoC c i) s,X,A⟩
  have t:∀n m,af Z C n (aj 58 [cp (c.map bI) 0 i [],bI c[i]] m)=.r (J (f (c.take i,c[i]))) m U:=t (c.take i,c[i]) F _ (by show[fO (cp (c.map bI) 0 i []),fO (bI c[i])]=_;rw[aqW,show fO (cp (c.map bI) 0 i [])=bw (c.take i) from Sh bI c (v9 k)])
  by_cases y:f (c.take i,c[i])=0
  .simp[B,u,w,k,V,t,abQ (v9 k),bounds,iV,y];intro j p e;rcases Nat.lt_or_eq_of_le (Nat.le_of_lt_succ e)with q|rfl
   .exact r j p q
   .exact M _ F y
  .simp[u,w,k,t,abQ (v9 k),bounds,iV,y];exact o _ _ i _ (λq=>absurd q y) (by simp) (by simp)
 .rintro g h m ⟨B,u,w,r⟩-;simp[u,w];exact o _ _ 0 0 (λ_=>⟨λi k=>r i k k⟩) (by simp) (by simp)
def avl:∃f:List zB->Bool,aJ Z prog 35 (λl=>eP l<bz) (λl=>[bw l]) (λx=>zP (f x))/\∀l,eP l<bz->f l=Y->I l<=70/\∀d∈l,oH d:=by
 refine iC zP (λ(l:List zB) v=>v=Y->I l<=70/\∀d∈l,oH d) λa w=>?_;let⟨f,A,B⟩:=avb;let⟨C,F,s⟩:=Dp A E9;have M:=Hl a;have H:eP a<2097152:=w;refine jq (T:=Z) tok C F (.Cs (me a) .Nl) (λ_=>.Gd rfl) 5000000 F35 rfl rfl ?_;simp[bC F35,f35];refine forA (min 80 (I a)) 0 (λi r h=>r.g 0=O (bw a)/\aa r 3 (J i)/\∀j(k:j<I a),j<i->oH a[j]) ⟨by simp,by simp,λ_ _ h=>by cases h⟩ (by omega) (by omega) ?_ ?_
 .rintro i r h m N ⟨o,b,k⟩-t;have g:i<I a:=by omega
  have u:i<80:=by omega
  have y:dH a[i]<bz:=xN (Bm (f:=dH) (zW g)) w;have s:=λn m=>s n a[i] m y;cases c:f a[i]<;>simp[o,b,g,u,t,s,c]
  exact upto (p:=oH) g k (B _ y c)
 .rintro r h m ⟨o,b,k⟩-;by_cases c:I a<80
  .have e:min 80 (I a)=I a:=by omega
   rw[e]at b k;simp[o,b];by_cases q:I a<=70
   .exact zt ⟨q,AI (p:=oH) λj h _=>k j h h⟩
   .exact zq (by omega)
  .have e:min 80 (I a)=80:=by omega
   rw[e]at b;by_cases L:80<I a
   .simp[o,b,L];omega
   .have t:I a=80:=by omega
    simp[o,b,t]
def ate:∃f:List zB->Bool,aJ Z prog 13 (λl=>eP l<bz) (λl=>[bw l]) (λx=>zP (f x))/\∀l,eP l<bz->f l=Y->s6 l/\∀d∈l,oH d:=by
 refine iC zP (λ(l:List zB) v=>v=Y->s6 l/\∀d∈l,oH d) λa b=>?_;let⟨f,i,j⟩:=avl;let⟨g,k,o⟩:=aq0;let⟨C,p,e,h⟩:=LM i Vk k Vk (by decide);have e:=λn m=>e n a m b;have h:=λn m=>h n a m b;refine jq (T:=Z) tok C p (.Cs (me a) .Nl) (λ_=>.Gd rfl) 5 F13 rfl rfl ?_;cases c:f a<;>simp[bC F13,f13,e,h,c]
 by_cases q:(g a).2=0
 .exact zt ⟨q,o a b q,(j a b c).2⟩
 .exact zq q
abbrev Gs(g:zZ):E:=zU (za g) #[] #[]
structure LV(l:List ByteArray)(g i:Nat)(tm:Tr E):Prop where
 t0:aa tm 0 (bL l)
 t1:aa tm 1 (Gs g)
 t7:aa tm 7 (J (I l:Nat))
 t8:aa tm 8 (J i)
section
variable{ev:zC->ag}{l:List ByteArray}{g i:Nat}{tm:Tr E}{h:H}
theorem alM(j:LV l g i tm)(e:i<I l)(d:i+1<=ao)(b:∀s h,ev (aj g [zN s] h)=.r (zP (decide (80<s.size))) h U):
 aD (λa m=>m=h/\LV l g (i+1) a) (λa _=>∃k,aa a 4 (J k)) bE
  (aF Z ev 59 Ig tm h):=by
 let⟨t0,t1,t7,t8⟩:=j;have f:=dA d;simp at f;by_cases c:80<l[i].size
 .simp[Ig,z,f59,t0,t1,t7,t8,e,b,c]
 .simp[Ig,z,f59,t0,t1,t7,t8,e,f,b,c];exact⟨by simp[t0],by simp[t1],by simp[t7],by simp⟩
theorem aoD(b:LV l g i tm)(c:I l<=i):
 aD ap ap (λj _ _=>j=0) (aF Z ev 59 Ig tm h):=by
 let⟨t0,t1,t7,t8⟩:=b;have a:¬i<I l:=by omega
 simp[Ig,z,f59,t7,t8,a]
end
section
variable{g:zZ}(hg:aJ Z prog g (λ_=>True) (λs=>[zN s]) (λs=>zP (decide (80<s.size))))
include hg
theorem aoE:∃f:List ByteArray->Int,aJ Z prog 59 (λl=>I l<ao) (λl=>[bL l,Gs g]) (λx=>J (f x)):=by
 obtain⟨C,p,r⟩:∃C,aR Z prog C/\Has C g (λ_:ByteArray=>True) (λs=>[zN s]) (λs=>zP (decide (80<s.size))):=
  ⟨_,aZ aW hg,Has.Ad λx y e=>by simp at e;rw[e]⟩
 have c:=λn s m=>r.ev (T:=Z) n (x:=s) trivial m;refine qi J λl k=>CE tok C p (.Cs (lj l) (.Cs (.func _ .Nl .Nl) .Nl)) (λ_=>.Gd rfl) (I l+1) F59 akA rfl ?_;have k:I l<ao:=k
 have t:aD (λtm h=>tm.g 0=O (bL l)/\aa tm 1 (Gs g)) ap bE (aF Z (af Z C (I l+1+1)) 59 (z f59 pF0) (bF [bL l,Gs g] 0 .Nl) H.e):=by simp[z,f59]
 have u:∀tm h,(aa tm 0 (bL l)/\aa tm 1 (Gs g))->aD (λtm h=>LV l g 0 tm) ap bE (aF Z (af Z C (I l+1+1)) 59 (z f59 [Y,G,G]) tm h):=by rintro tm h ⟨o,v⟩;simp[z,f59,o];exact⟨by simp[o],by simp[v],by simp,by simp⟩
 refine aS (t.Mo bT aP cS) λtm h q=>aS (N':=λ_ _=>True) (aS ((u tm h q).Mo bT aP cS) λtm h b=>?_) λtm h q=>?_
 .refine fU 0 (λj tm h=>∃i,j=I l-i/\i<=I l/\LV l g i tm) (I l) ⟨0,rfl,by omega,b⟩ (by omega) ?_;rintro j tm h m ⟨i,rfl,A,b⟩-;by_cases a:i<I l
  .exact(alM b a (by omega) (c m)).Mo (λd w q=>⟨_,by omega,i+1,rfl,a,q.2⟩) (λd w q=>q) jr
  .exact(aoD b (by omega)).Mo aP aP (λ_ _ _ q=>⟨q,trivial⟩)
 .simp[z,f59]
theorem ajk:∃f:List ByteArray->Bool,aJ Z prog 37 (λl=>I l<ao) (λl=>[bL l,Gs g]) (λx=>zP (f x)):=by
 let⟨f,a⟩:=aoE hg;refine qi zP λl b=>?_
 obtain⟨C,c,d⟩:∃C,aR Z prog C/\iA C 59 (λl:List ByteArray=>I l<ao) (λl=>[bL l,Gs g]) J:=
  ⟨_,Bb aW (λ_=>rfl) a,iA.add⟩
 let⟨k,e⟩:=d.data (T:=Z) (x:=l) b (.Cs (lj l) (.Cs (.func _ .Nl .Nl) .Nl));refine CE tok C c (.Cs (lj l) (.Cs (.func _ .Nl .Nl) .Nl)) (λ_=>.Gd rfl) 1 F37 rfl rfl ?_;simp[e];omega
end
end Go.Proofs.YtpeialehpoilbaaGreat
namespace Go.Am
section
variable{T:au}{P:zo}
def iA.fn{d e:Type}[Inhabited e]{g:zZ}{pre:d->Prop}{b:d->List E}{r:e->E}{C:aV}(h:iA C g pre b r){x:d}(f:pre x){args:List E}(a:H->Prop)(i:∀m,a m->eV (lI m) args (b x)):
 ∃y:H->e,∀n m,a m->af T C n (aj g args m)=.r (r (y m)) m U:=by
 classical
 have:∀m,∃y,a m->∀n,af T C n (aj g args m)=.r (r y) m U:=λm=>by
  by_cases c:a m
  .let⟨y,j⟩:=h.ev (T:=T) f (i m c);exact⟨y,λ_=>j⟩
  .exact⟨default,λq=>absurd q c⟩
 exact⟨λm=>yE (this m),λn m c=>zk (this m) c n⟩
end
end Go.Am
namespace Go.Proofs.YtpeialehpoilbaaGreat
def F14:Z.f 14=O f14:=by kernel_rfl
def F15:Z.f 15=O f15:=by kernel_rfl
def F24:Z.f 24=O f24:=by kernel_rfl
def F6:Z.f 6=O f6:=by kernel_rfl
def aq1:∃f:List ByteArray->Bool,aJ Z prog 14 (λl=>I l<ao) (λl=>[bL l]) (λx=>zP (f x)):=by let⟨f,b⟩:=ajk aua;let⟨C,d,a⟩:=Dp b (λx y e=>by simp at e;exact CA e);refine qi zP λl g=>(jq (T:=Z) (Q:=λ_=>True) tok C d (.Cs (lj l) .Nl) (λ_=>.Gd rfl) 5 F14 rfl rfl ?_).imp λ_ h=>h.2;have a:=λn m=>a n l m g;by_cases c:I l<=12<;>simp[bC F14,f14,a,c]
abbrev m1(t:zA):Meta:=⟨t,G,zT,Y⟩
def Vl(x:Meta){g:Bool}(a:ae h k (K FD t g)):zG Z h 42 (fE x) (pB k)=O (h.p k (K (ah (fE x)) t g)):=by rw[dY (v:=fE x) (n:=12) (off:=0) V0 rfl rfl a (by show 12<=12;omega)];rfl
def OJ:iQ Z h 2 (O (zf 31)) (O [(0,D a),(1,D d)])=.v (zL (pO h.n) 2 2) (h.w (ad (ah (D a)++ah (D d)) 31)):=by rw[eD a,eD d];kernel_rfl
def aaS(g:h.b=0)(f:ae h n (ad (ah (D a)++ah (D d)) 31)):ej (lI h) (zL (pO n) 2 2) (al [a,d]):=
 .slice (pre:=[]) (post:=[]) (es:=[D a,D d]) (sz:=5) (e:=31) (gr:=G) (by show(if h.b<=n then h.g n else U)=_;rw[if_pos (by omega),f];simp) rfl (λx c=>by simp at c;rcases c with rfl|rfl<;>rw[dP]<;>rfl) rfl (zR _) (.Cs (.Pu (bg a)) (.Cs (.Pu (bg d)) .Nl))
theorem W8:zx.wrap 1=1:=by decide
theorem atf:∃f:zA->Bool,aJ Z prog 15 (λt=>wt t<bz) (λt=>[aC [m1 t]]) (λx=>zP (f x)):=by
 let⟨f1,F⟩:=abx
 let⟨f2,L⟩:=aub
 let⟨u,M⟩:=Ts
 let c3:=pf (gq (λ_:zA=>True) (λt=>[D t,D zT]) (λx=>zP (u x)))
 obtain⟨C,V,d,p,N,v⟩:∃C,aR Z prog C/\iA C 39 (λx:CZ=>fA x.2<ao) Fv J/\iA C 40 (λl:List zA=>fA l<ao) (λl=>[al l]) zP/\pA Z C 11 (λ_:zA=>True) (λt=>[D t,D zT]) (λx=>zP (u x))/\Ev Z C 21 iU.ok iU.enc (λx=>J x.hE):=
  ⟨_,Bb (Bb (aZ (pD (aZ aW M)) Tx) (λ_=>rfl) L) (λ_=>rfl) F,iA.add,iA.skip (by decide) iA.add,qk W1 (by funext a h;simp[bY]),(Has.Sk (by decide) (Has.Sk (by decide) (Has.inj λx y e=>iU.He e))).toEv⟩
 refine qi zP λt R=>(jq (T:=Z) (Q:=λ_=>True) tok C V (.Cs (Ab _) .Nl) (λ_=>.Gd rfl) 5 F15 rfl rfl ?_).imp λ_ h=>h.2
 have R:wt t<2097152:=R
 have S:fA [t,zT]<ao:=by
  have e:wt zT=1:=by rw[rZ];rfl
  rw[G4,G4,e];show wt t+(1+0)<_;unfold ao;omega
 let⟨W,d⟩:=d.fn (T:=Z) (x:=(40,[t,zT])) S (args:=[J 40,zL (O ⟨1,0,U⟩) 2 2]) (λm=>m.b=0/\m.g 1=O (K (ah (D t)++ah (D zT)) 31 G)) (λm⟨a,b⟩=>.Cs (.Pu (.Gd rfl)) (.Cs (aaS a b) .Nl))
 let⟨X,p⟩:=p.fn (T:=Z) (x:=[t,zT]) S (args:=[zL (O ⟨2,0,U⟩) 2 2]) (λm=>m.b=0/\m.g 2=O (K (ah (D t)++ah (D zT)) 31 G)) (λm⟨a,b⟩=>.Cs (aaS a b) .Nl)
 have N:∀n m,af Z C n (aj 11 [D zT,aAg z5] m)=.r (zP (u zT)) m U:=N zT trivial _ (by simp)
 have v:∀n m,af Z C n (aj 21 [D t,J 0,J 8,J 1,J 65536] m)=.r (J (kX 0 8 1 65536 t)) m U:=λn m=>v n ⟨t,0,8,1,65536⟩ m ⟨by show wt t<ao;unfold ao;omega,by show(0:Int)<=0;decide,by show(0:Int)<=8;decide,by show(0:Int)<=1;decide,by show(0:Int)<=65536;decide⟩
 have w:=λ(h:H)(q:h.g 0=O (K FD 42 G))=>Vl (m1 t) q
 have A:∀h:H,dI Z h (O (zf 42)) (O (aC [m1 t])) (O (J 0))=.v (ar (fE (m1 t)) 0) h:=λh=>GV (h:=h) (l:=[m1 t]) (k:=zx) (i:=0) (by simp)
 simp[bC F15,f15]
 refine forA 1 0 (λi g h=>g.g 0=O (aC [m1 t])/\g.g 8=O (aC [m1 t])/\g.g 9=O (J 1)/\g.g 10=O (J i)/\(i=0->h=H.e)) ⟨by simp,by simp,by simp,by simp,λ_=>rfl⟩ (by omega) (by omega) ?_ ?_
 .rintro i g h m hi ⟨r,s,j,c,hh⟩-e2
  obtain rfl:i=0:=by omega
  obtain rfl:=hh rfl
  let h1:=(H.e.w (K FD 42 G)).p 0 (K (ah (fE (m1 t))) 42 G)
  let o:=h1.w (K (ah (D t)++ah (D zT)) 31 G)
  let B:=o.w (K (ah (D t)++ah (D zT)) 31 G)
  by_cases c1:40<W o
  .simp[r,s,j,c,w,OJ,A,d,c1,h1,o]
  cases P:X B
  .simp[r,s,j,c,w,OJ,A,d,c1,p,P,h1,o,B]
  by_cases c3:kX 0 8 1 65536 t=0
  case neg=>simp[r,s,j,c,w,OJ,A,d,c1,p,P,h1,o,B,v,c3]
  cases c4:u zT<;>simp[r,s,j,c,w,OJ,A,d,c1,p,P,h1,o,B,v,c3,jn,N,c4,W8]
 .rintro g h m ⟨r,s,j,c,-⟩-
  simp[j,c]
def z3:zero Z 3=O (J 0):=by kernel_rfl
def alN:aJ Z prog 24 (λ_:zA=>True) (λt=>[aC [m1 t]]) (λ_=>zP Y):=by
 intro t _;have e:=λ(h:H)(q:ae h 1 (ad FD 42))=>Vl (m1 t) q;have f:∀h:H,dI Z h (O (zf 42)) (O (aC [m1 t])) (O (J 0))=.v (ar (fE (m1 t)) 0) h:=λh=>GV (h:=h) (l:=[m1 t]) (k:=zx) (i:=0) (by simp);have g:=λ(h:H)(q:ae h 0 (ad [J 0] 3))=>dY (T:=Z) (t:=3) (v:=J 0) (n:=1) (off:=0) (by kernel_rfl) rfl rfl q (by decide)
 obtain⟨v,rfl,j⟩:=jq (T:=Z) (β:=Bool) (r:=zP) (Q:=λv=>v=Y) tok cg aW (.Cs (Ab [m1 t]) .Nl) (λ_=>.Gd rfl) 5 F24 rfl rfl (by
  simp[bC F24,f24];refine forA 1 0 (λi a h=>a.g 5=O (aC [m1 t])/\aa a 6 (J 1)/\aa a 7 (J i)/\(i=0->h=H.e)) ⟨by simp,by simp,by simp,λ_=>rfl⟩ (by omega) (by omega) ?_ ?_
  .rintro i a h m p ⟨d,b,c,o⟩-s;obtain rfl:i=0:=by omega
   obtain rfl:=o rfl;simp[d,b,c,f,g,e,W8]
  .rintro a h m ⟨d,b,c,-⟩-;simp[b,c])
 exact j
abbrev QE(t:zA):E:=cJ (aC [m1 t]) 0
structure Vm(s:St)(t:zA):Prop where
 ok:s.Ok
 env:eP s.env<bz
 ins:I s.cH<ao
 wt:wt t<bz
section
variable(s:St)(mv:E)(aQ:Int)(h:H)
def KF:zE Z 22 (jt s) 0=O (bw s.env):=by rw[dK (show Am.zK Z 22=O G by kernel_rfl)];rfl
def OK:zE Z 24 (jt s) 2=O (bL s.dZ):=by rw[mG];rfl
def T9:zE Z 24 (jt s) 3=O (bL s.cH):=by rw[mG];rfl
def LW:zE Z 43 (cM mv aQ) 0=O mv:=by rw[Ck];rfl
def aec:zE Z 44 (cM mv aQ) 1=O ba:=by rw[IU];rfl
def awY:zE Z 45 (cM mv aQ) 2=O ba:=by rw[p45];rfl
def aed:zE Z 3 (cM mv aQ) 3=O (J aQ):=by rw[p3];rfl
end
def awZ:∃f:St×zA->Bool,aJ Z prog 6 (λx=>Vm x.1 x.2) (λx=>[dO x.1,QE x.2]) (λx=>zP (f x))/\∀x,Vm x.1 x.2->f x=Y->s6 x.1.env/\∀d∈x.1.env,oH d:=by
 refine iC zP (λ(x:St×zA) v=>v=Y->s6 x.1.env/\∀d∈x.1.env,oH d) λ⟨s,t⟩⟨B,he,hi,F⟩=>?_;let⟨f1,P,g⟩:=ate;let⟨f2,Q⟩:=aq1;let⟨f3,R⟩:=atf;let⟨C,hC,j,k2,L,S,V⟩:=awT P Vk Q (λx y e=>by simp at e;exact CA e) R (λx y e=>by simp at e;exact congrArg Meta.type (ue (Jw e))) alN (λx y e=>by simp at e;exact congrArg Meta.type (ue (Jw e))) Tx (λx y e=>iU.He e) (by decide);have B:s.Ok:=B;have F:wt t<bz:=F;have j:=λn m=>j n s.env m he;have b:=λn m=>k2 n s.dZ m B.ng;have o:=λn m=>k2 n s.cH m hi;have L:=λn m=>L n t m F;have S:=λn m=>S n t m trivial;have g:=g s.env he;have V:∀n m,af Z C n (aj 21 [D t,J 0,J 8,J 1,J 0] m)=.r (J (kX 0 8 1 0 t)) m U:=λn m=>V n ⟨t,0,8,1,0⟩ m ⟨by show wt t<ao;unfold bz at F;unfold ao;omega,by show(0:Int)<=0;decide,by show(0:Int)<=8;decide,by show(0:Int)<=1;decide,by show(0:Int)<=0;decide⟩;refine jq (T:=Z) tok C hC (.Cs (Ej B) (.Cs (.agg (.Cs (Ab _) HY)) .Nl)) (λ_=>.Gd rfl) 50 F6 rfl rfl ?_;cases c1:f1 s.env
 .simp[bC F6,f6,j,c1,KF]
 cases M:f2 s.dZ
 .simp[bC F6,f6,j,c1,KF,M,b,OK]
 cases c3:f2 s.cH
 .simp[bC F6,f6,j,c1,KF,M,b,OK,c3,o,T9]
 cases c4:f3 t
 .simp[bC F6,f6,j,c1,KF,M,b,OK,c3,o,T9,L,c4,LW]
 simp[bC F6,f6,j,c1,KF,M,b,OK,c3,o,T9,L,c4,LW,aed,aec,awY];let N:=(H.e.w (ad (jt s) 27)).w (ad (cM (aC [m1 t]) 0) 47);have s1:=λ(h:H)(q:ae h 2 (ad FD 42))=>Vl (m1 t) q;have ix:∀h:H,dI Z h (O (zf 42)) (O (aC [m1 t])) (O (J 0))=.v (ar (fE (m1 t)) 0) h:=λh=>GV (h:=h) (l:=[m1 t]) (k:=zx) (i:=0) (by simp);refine forA 0 0 (λi a h=>h=N/\aa a 3 (pB 1)/\aa a 59 (J 0)/\aa a 60 (J 0)) ⟨rfl,by simp,by simp,by simp⟩ (by omega) (by omega) (λi _ _ _ h=>absurd h (x9 i)) ?_;rintro a h m ⟨rfl,c,W,X⟩-;simp[N,c,W,X,LW];refine forA 1 0 (λi a h=>h.b=0/\ae h 1 (ad (cM (aC [m1 t]) 0) 47)/\aa a 3 (pB 1)/\aa a 78 (aC [m1 t])/\aa a 79 (J 1)/\aa a 80 (J i)/\(i=0->h=N)) ⟨by simp,by simp,by simp[c],by simp,by simp,by simp,λ_=>rfl⟩ (by omega) (by omega) ?_ ?_
 .rintro i a h m hi ⟨u,w,c,A,p,r,hq⟩-e2;obtain rfl:i=0:=by omega
  obtain rfl:=hq rfl;by_cases c5:kX 0 8 1 0 t=0<;>simp[N,c,A,p,r,ix,s1,LW,aed,V,c5,W8]
 rintro a h m ⟨u,w,c,A,p,r,-⟩-;simp[u,w,c,p,r,aec];refine forA 0 0 (λi a h=>h.b=0/\ae h 1 (ad (cM (aC [m1 t]) 0) 47)/\aa a 3 (pB 1)/\aa a 111 (J 0)/\aa a 112 (J 0)) ⟨u,w,by simp[c],by simp,by simp⟩ (by omega) (by omega) (λi _ _ _ h=>absurd h (x9 i)) ?_;rintro a h m ⟨u,w,c,t111,t112⟩-;simp[u,w,c,t111,t112,LW,S];exact g c1
end Go.Proofs.YtpeialehpoilbaaGreat
namespace Go.Am
section
variable{T:au}{P:zo}{α:Type}{e:zQ}{enc:α->E}{sz:Nat}
structure NL(α:Type) where
 l:List α
 isNil:Bool
def jw(enc:α->E)(x:NL α):E:=cp (x.l.map enc) 0 (I x.l) (match x.l with|[]=>[zP x.isNil]|_::_=>[])
theorem OL(Ee:El T e enc sz){h:H}{v x:E}{base:Option Addr}{cD c:List E}(j:n+k<=1073741824)(l:zH h n sz v=O cD)(m:zH h k sz x=O c)(b:I cD=n*sz)(d:I c=k*sz)(f:da c=Y)(o:v=zL base n n):
 jO T h x (O (zf e)) (O (zf s)) v (O k)=MP T (cu (cu h v) x) e sz n n k cD c base:=by
 subst o;have a:=Ee.cw;cases g:T.cw.g e with
 |none=>rw[g]at a;cases a
 |some i=>
  rw[g]at a;simp at a;show jy T h e (zL base n n) x base n n k (T.cw.g e)=_;rw[g];unfold jy;dsimp only;rw[jh (show i.size≠0 by have:=Ee.pos;omega),zb a.2,zb (show zl n k<=1073741824 from j),Ee.zero,a.1,l,m];show cond (cond (zV (dh c) (z7 k sz)) (cond (zV (dh cD) (z7 n sz)) (da c) G) G) (MP T (cu (cu h (zL base n n)) x) e sz n n k cD c base) aK.f=_;rw[fX,fX,ek (show I c=z7 k sz from d),ek (show I cD=z7 n sz from b),f];rfl
theorem GM{h:H}{c:List E}{g:Bool}(a:ae h n (K c s g))(b:I c=k*sz):zH h k sz (zL (pO n) k m)=O c:=by show rK 0 (z7 k sz) (rD (h.g n))=_;rw[a];show cut c 0 (k*sz)=_;rw[Sym.nw (by omega),yY,yI (by omega)]
theorem acJ(h:k<n):ze n k=G:=by
 cases q:ze n k with
 |false=>rfl
 |true=>have:=wb q;omega
theorem acK(Ee:El T e enc sz){h:H}{c:List E}{e2 :zQ}{g:Bool}(a:ae h m (K c s g))(d:I c=sz)(b:da c=Y):
 jO T h (zL (pO m) 1 1) (O (zf e)) (O (zf e2)) (zL U 0 0) (O 1)=.v (zL (pO h.n) 1 1) ((h.az m).w (K c e Y)):=by
 rw[OL Ee (n:=0) (k:=1) (cD:=[]) (c:=c) (base:=U) (by omega) rfl (GM a (by omega)) (by simp) (by omega) b rfl];show aK.v (zL (pO (h.az m).n) 1 1) _=_;rw[oO];rfl
theorem acL(Ee:El T e enc sz){h:H}{cD c:List E}{e2 :zQ}{g:Bool}(d:ae h m (K cD e Y))(a:I cD=n*sz)(f:ae h i (K c s g))(o:I c=sz)(j:da c=Y)(l:n+1<=1073741824):
 jO T h (zL (pO i) 1 1) (O (zf e)) (O (zf e2)) (zL (pO m) n n) (O 1)=.v (zL (pO h.n) (n+1) (n+1)) ((((h.az m).az i).d m).w (K (cD++c) e Y)):=by
 rw[OL Ee (n:=n) (k:=1) (cD:=cD) (c:=c) (base:=pO m) l (GM d a) (GM f (by omega)) a (by omega) j rfl];show kq T ((h.az m).az i) m 0 e sz n n 1 cD c (((h.az m).az i).g m)=_;rw[pH,pH,d];show bN _ _ (ze (zl n 1) n)=_;rw[acJ (show n<zl n 1 from yL n)];show mP T ((h.az m).az i) m e sz (zl n 1) (zl 0 (z7 n sz)) (il cD c) cD e Y=_;unfold mP;rw[Ee.size,fX,ek (show zl 0 (z7 n sz)=I cD by rw[a];exact Nat.zero_add _),Ca.qH];show cond (zV sz sz) _ _=_;rw[Nat.beq_refl];show aK.v (zL (pO (((h.az m).az i).d m).n) (n+1) (n+1)) _=_;rw[mR,oO,oO]
theorem abR(Ee:El T e enc sz){h:H}{c:List E}{e2 :zQ}{g:Bool}(a:ae h m (ad [] e))(d:ae h i (K c s g))(j:I c=sz)(f:da c=Y):
 jO T h (zL (pO i) 1 1) (O (zf e)) (O (zf e2)) (zL (pO m) 0 0) (O 1)=.v (zL (pO h.n) 1 1) (((h.az m).az i).w (K c e Y)):=by
 rw[OL Ee (n:=0) (k:=1) (cD:=[]) (c:=c) (base:=pO m) (by omega) (GM a (by simp)) (GM d (by omega)) (by simp) (by omega) f rfl];show kq T ((h.az m).az i) m 0 e sz 0 0 1 [] c (((h.az m).az i).g m)=_;rw[pH,pH,a];show aK.v (zL (pO ((h.az m).az i).n) 1 1) _=_;rw[oO,oO];rfl
theorem alO{k:List aG->S->ag}{d:Tr Nat}{l:List aG}{h:H}{a:ai}(hb:h.b=0)(f:m<h.n)(c:n<h.n)(ha:fe (aE d i) ⟨i,zi (bit n) (bit m),bit h.n⟩ l=Y):
 Sym.gG k d l i r X h o (((h.f.az n).az m).w a)=k (⟨i,zi (bit n) (bit m),bit h.n⟩::l) ⟨r,X,h.w a,o⟩:=by
 have e:((h.f.az n).az m)=⟨h.m,h.n,h.n,zi (bit n) (bit m),0⟩:=by rw[Rh h c,nv,if_neg (by show¬h.n<=m;omega)]
 rw[e,ib,Sym.Cz (rd:=zi (bit n) (bit m)) (wr:=bit h.n) (hb:=hb) (hr:=rfl) (hw:=by show zi 0 (dr h.n (h.n+1))=_;rw[I4,qz]) (hz:=by rw[CJ,Bool.and_false]) (ha:=ha),ib]
theorem ZY{g:List E}{gr:Bool}{b:Nat->E}(m:H):aLf e gr (λ_:Unit=>True) (λ_=>g) (λ_=>p) (λa _=>b a) g m=O (.r (b m.n) (m.w (K p e gr)) U):=by unfold aLf;rw[dif_pos ⟨(),trivial,rfl⟩]
theorem ZZ(h:∀x,bX (ah (enc x))):∀l:List α,bX (zF enc l)
 |[]=>.Nl
 |x::l=>by rw[rH];exact(h x).append (ZZ h l)
theorem adq(Ee:El T e enc sz){h:H}{x:NL α}(f:h.b=0)(d:ae h m (ad [] e))(i:I x.l<=1073741824):
 jO T h (jw enc x) (O (zf e)) (O (zf e)) (zL (pO m) 0 0) (O (I x.l))=
  match x.l with|[]=>.v (zL (pO m) 0 0) h|_::_=>.v (zL (pO h.n) (I x.l) (I x.l)) (h.w (K (zF enc x.l) e Y)):=by
 have g:zH h (I x.l) sz (jw enc x)=O (zF enc x.l):=by
  have:=Ju (enc:=enc) (sz:=sz) (h:=h) (l:=x.l) (off:=0) (fG:=match x.l with|[]=>[zP x.isNil]|_::_=>[]) (p:= #[]) (k:=I x.l)
  rw[yY,List.take_length]at this;exact this
 rw[OL Ee (n:=0) (k:=I x.l) (cD:=[]) (c:=zF enc x.l) (base:=pO m) (by omega) (GM d (by simp)) g (by simp) (Ee.ia _) (Ee.qA _) rfl];show kq T (h.az m) m 0 e sz 0 0 (I x.l) [] (zF enc x.l) ((h.az m).g m)=_;rw[Ae f,d];let⟨l,nl⟩:=x;cases l with
 |nil=>rfl
 |cons a l=>
  show bN (mP T h m e sz (zl 0 (I l+1)) (zl 0 (z7 0 sz)) (il [] (zF enc (a::l))) [] e G) (bN (Nu h m 0 (zl 0 (I l+1)) 0 e G (kx (zl 0 (z7 0 sz)) (zF enc (a::l)) [])) (.v (zL (pO m) 0 0) h) (zV (I l+1) 0)) (ze (zl 0 (I l+1)) 0)=_;rw[acJ (show 0<zl 0 (I l+1)by show 0<0+(I l+1);omega)];show kO h e (0+(I l+1)) (il [] (zF enc (a::l)))=_;rw[Nat.zero_add];rfl
def KG(g:zZ)(e:zQ)(enc:α->E)(x:NL α)(c:List E->H->Option ag):Prop:=
 (x.l=[]/\∀m,c [jw enc x] m=O (.r (zL U 0 0) m U))\/(x.l=[]/\∀m,c [jw enc x] m=O (.r (zL (pO m.n) 0 0) (m.w (ad [] e)) U))\/
   (x.l≠[]/\∀m,c [jw enc x] m=O (.r (zL (pO m.n) (I x.l) (I x.l)) (m.w (K (zF enc x.l) e Y)) U))
end
end Go.Am
namespace Go.Proofs.YtpeialehpoilbaaGreat
theorem F4:Z.f 4=O f4:=by kernel_rfl
theorem F12:Z.f 12=O f12:=by kernel_rfl
section
variable{α:Type}{enc:α->E}{e t sz:Nat}{g:zZ}(Ee:El Z e enc sz)(hp:∀x,bH (enc x))(Dz:∀x,bX (ah (enc x)))
 (qV:∀(x:NL α)(jE:∀h,fu Z h .eql t (.tmp 3) (.const (zL U 0 0)) (O (jw enc x)) (O (zL U 0 0))=.v (zP (x.l.isEmpty&&x.isNil)) h)(v:E)(h2:H)
   (ea:jO Z (H.e.w (ad [] e)) (jw enc x) (O (zf e)) (O (zf e)) (zL (pO 0) 0 0) (O (I x.l))=.v v h2),cB Z (af Z cg 3) g [jw enc x] H.e U (Z.f g)=if(x.l.isEmpty&&x.isNil)=Y then .r (zL U 0 0) H.e U else .r v h2 U)
 (AN:∀(x:NL α)(h:H),fu Z h .eql t (.tmp 3) (.const (zL U 0 0)) (O (jw enc x)) (O (zL U 0 0))=.v (zP (x.l.isEmpty&&x.isNil)) h)
include Ee hp Dz qV AN
theorem Z0(x:NL α)(r:I x.l<=1073741824):∃c,KG g e enc x c/\∀C,aR Z prog C->aR Z prog (bY g c C):=by
 let⟨l,j⟩:=x;have i:bX [jw enc ⟨l,j⟩]:=.Cs (.data _ _ _ _ (map_pure hp l)) .Nl;cases l with
 |nil=>
  have o:=qV ⟨[],j⟩ (AN _) (zL (O ⟨0,0,U⟩) 0 0) (H.e.w (K [] e G)) (adq Ee (by simp) (by simp) r);cases j with
  |true=>
   exact⟨gq (λ_:Unit=>True) (λ_=>[jw enc ⟨[],Y⟩]) (λ_=>zL U 0 0),zq ⟨rfl,λm=>Bl (pre:=λ_:Unit=>True) (enc:=λ_=>[jw enc ⟨[],Y⟩]) (f:=λ_=>zL U 0 0) (λ_ _ _=>rfl) (x:=()) trivial m⟩,λC k=>aZ k λ_ _ h=>ox tok cg aW i 3 o (.Pu (.Gd rfl)) h⟩
  |false=>
   exact⟨aLf e G (λ_:Unit=>True) (λ_=>[jw enc ⟨[],G⟩]) (λ_=>[]) (λb _=>zL (O ⟨b,0,U⟩) 0 0),zt (zq ⟨rfl,λm=>ZY m⟩),λC k=>Jv k λ_ _ h=>
    Nj tok (pI tok aW _) i o (b0:=0) (c1:=[]) (e:=e) (gr:=G) (by simp) .Nl (.slice 0 _ _) λm d p=>by rcases p.lk with⟨q,_,n,_⟩|⟨_,_,q,_,n,_⟩<;>rw[n]<;>simp⟩
 |cons a l=>
  have o:=qV ⟨a::l,j⟩ (AN _) (zL (O ⟨1,0,U⟩) (I (a::l)) (I (a::l))) ((H.e.w (K [] e G)).w (K (zF enc (a::l)) e Y)) (by rw[adq Ee (by simp) (by simp) r];simp)
  exact⟨aLf e Y (λ_:Unit=>True) (λ_=>[jw enc ⟨a::l,j⟩]) (λ_=>zF enc (a::l)) (λb _=>zL (O ⟨b,0,U⟩) (I (a::l)) (I (a::l))),zt (zt ⟨by simp,λm=>ZY m⟩),λC k=>Jv k λ_ _ h=>
   Nj tok (pI tok aW _) i o (b0:=1) (c1:=zF enc (a::l)) (e:=e) (gr:=Y) (by simp) (DL.pure (ZZ Dz _)) (.slice 0 _ _) λm d p=>by rcases p.lk with⟨q,_,n,_⟩|⟨_,_,q,_,n,_⟩<;>rw[n]<;>simp⟩
end
@[simp] theorem aIg{h:H}:iQ Z h 0 (O (zf 38)) (O [])=.v (zL (pO h.n) 0 0) (h.w (ad [] 38)):=by kernel_rfl
@[simp] theorem aFB{α:Type}(enc:α->E)(x:NL α):lenOf (jw enc x)=O (I x.l):=rfl
theorem atg(x:NL zB)(e:I x.l<=1073741824):∃c,KG 4 38 bI x c/\∀C,aR Z prog C->aR Z prog (bY 4 c C):=
 Z0 (t:=22) DE kM (λd=>MZ d) (λx a v h2 ea=>by
  cases b:(x.l.isEmpty&&x.isNil)
  .rw[dx (vs:=[v]) (h2:=h2) (ab:=U) F4 rfl rfl (by simp only[f4];simp[a,b,ea,-tB])];rfl
  .rw[dx (vs:=[zL U 0 0]) (h2:=H.e) (ab:=U) F4 rfl rfl (by simp only[f4];simp[a,b,-zX])];rfl) (λ⟨l,n⟩ h=>by cases l<;>kernel_rfl) x e
theorem ath(x:NL ByteArray)(d:I x.l<=1073741824):∃c,KG 5 9 zN x c/\∀C,aR Z prog C->aR Z prog (bY 5 c C):=
 Z0 (t:=24) DD (λ_=>.Gd rfl) (λ_=>.Cs bJ .Nl) (λx a v h2 ea=>by
  cases b:(x.l.isEmpty&&x.isNil)
  .rw[dx (vs:=[v]) (h2:=h2) (ab:=U) F5 rfl rfl (by simp only[f5];simp[a,b,ea,-tB])];rfl
  .rw[dx (vs:=[zL U 0 0]) (h2:=H.e) (ab:=U) F5 rfl rfl (by simp only[f5];simp[a,b,-zX])];rfl) (λ⟨l,n⟩ h=>by cases l<;>kernel_rfl) x d
end Go.Proofs.YtpeialehpoilbaaGreat
namespace Go.Am.Eu
section
open Go.Proofs.YtpeialehpoilbaaGreat
def nJ(t:zA):zB:=⟨0,bR,0,t,zT,0,[],⟨0,zT,[]⟩,[]⟩
def ri(t:zA):E:=aAg (J 0::zN bR::J 0::(tc t++[J 0,J 0,zN ⟨#[]⟩,ba,ba,J 0,ba,J 0,J 0,J 0,zN ⟨#[]⟩,ba,ba,ba,ba]))
inductive DR where
 |d (x:zB)
 |l (t:zA)
def pg:DR->E
 |.d x=>bI x
 |.l t=>ri t
def acM:∀l:List zB,zF pg (l.map DR.d)=zF bI l
 |[]=>rfl
 |d::l=>by rw[xK,rH,rH,acM l];rfl
structure iE where
 env:NL zB
 impl:E
 dZ:List ByteArray
 cH:NL ByteArray
 lL:E
 ns:E
 opens:E
 t:zA
abbrev iE.tl(x:iE):List E:=[x.impl,bL x.dZ,jw zN x.cH,x.lL,x.ns,x.opens]
abbrev iE.jt(x:iE):List E:=jw bI x.env::x.tl
def iE.dO(x:iE):E:=aAg x.jt
def iE.st(x:iE):St:=⟨x.env.l++[nJ x.t],x.impl,x.dZ,x.cH.l++[bR],x.lL,x.ns,x.opens⟩
def iE.rows(x:iE):List DR:=x.env.l.map DR.d++[.l x.t]
structure iE.Ok(x:iE):Prop where
 impl:bH x.impl
 lL:bH x.lL
 ns:bH x.ns
 opens:bH x.opens
 ng:I x.dZ<2000000
 env:eP x.env.l+wt x.t<1050000
 ins:I x.cH.l<1050000
def ej.ri(g:Nat->Option ai)(t:zA):ej g (ri t) (bI (nJ t)):=by refine .agg (.Cs (.Pu (.Gd rfl)) (.Cs (.Pu (.Gd rfl)) (.Cs (.Pu (.Gd rfl)) (.Cs (.Pu (.Gd rfl)) (.Cs (.Pu (.Gd rfl)) (.Cs (.Pu (.Gd rfl)) (.Cs (.Pu (jM _)) (.Cs (.Pu (fb _)) ?_))))))));exact .Cs (.Pu (.Gd rfl)) (.Cs (.Pu (.Gd rfl)) (.Cs (.Pu (.Gd rfl)) (.Cs .cP (.Cs .cP (.Cs (.Pu (.Gd rfl)) (.Cs .cP (.Cs (.Pu (.Gd rfl)) (.Cs (.Pu (.Gd rfl)) (.Cs (.Pu (.Gd rfl)) (.Cs (.Pu (.Gd rfl)) (.Cs .cP (.Cs .cP (.Cs .cP (.Cs .cP .Nl))))))))))))))
def aoF(g:Nat->Option ai)(x:iE):eV g (x.rows.map pg) (x.st.env.map bI):=by
 show eV g ((x.env.l.map DR.d++[DR.l x.t]).map pg) ((x.env.l++[nJ x.t]).map bI);rw[xn,xn,List.map_map]
 have:∀l:List zB,eV g (l.map (pg∘DR.d)++[Eu.ri x.t]) (l.map bI++[bI (nJ x.t)]):=by
  intro l;induction l with
  |nil=>exact .Cs (ej.ri g x.t) .Nl
  |cons d l a=>exact .Cs (.Pu (kM d)) a
 exact this _
end
end Go.Am.Eu
namespace Go.Proofs.YtpeialehpoilbaaGreat
def F3:Z.f 3=O f3:=by kernel_rfl
def QF:El Z 38 pg 23:=⟨by omega,DE.cw,DE.zero,λx=>by cases x with|d x=>exact DE.len x|l t=>rfl,λx=>by cases x with|d x=>exact DE.one x|l t=>rfl⟩
def Vn:eK Z h 38 (O (aAg fS)) (O [(0,J 0),(1,zN bR),(3,D a)])=.v (ri a) h:=by rw[eD];kernel_rfl
def Ua:iQ Z h 1 (O (zf 38)) (O [(0,ri a)])=.v (zL (pO h.n) 1 1) (h.w (ad (ah (ri a)) 38)):=by kernel_rfl
def HH{V:E}{g:Bool}(d:Am.zI Z t=O 1)(a:ah V=[V])(f:da [V]=Y)(i:ae h m (K l s g))(j:k+1<=I l):
 zG Z h t V (zM (O ⟨m,k,U⟩))=O (h.p m (K (l.take k++(V::l.drop (k+1))) s g)):=by
 rw[dY (v:=V) (n:=1) (off:=k) d (by rw[a];rfl) (by rw[a];exact f) i j,a];rfl
def Iv:Array Oper:=bq (z f3 pF1)
def s7:Am.Tr Nat:=bj Iv.toList 0 .Nl
def aq2:(aN (aE s7 6) 1&&aN (aE s7 6) 2&&aN (aE s7 6) 3&&aN (aE s7 6) 5&&aN (aE s7 8) 1&&aN (aE s7 8) 2&&aN (aE s7 8) 3&&aN (aE s7 8) 5&&aN (aE s7 8) 6)=Y:=by kernel_rfl
structure J1(x:iE)(tm:Am.Tr E)(h:H):Prop where
 b:h.b=0
 nx:2<=h.n
 g1:ae h 1 (ad (ah (D x.t)) 31)
 t2:aa tm 2 (pB 0)
 t3:aa tm 3 (pB 1)
 row:∃V,ae h 0 (ad (V::x.tl) 27)/\oB pg 38 V h x.rows/\dz V 0/\dz V 1
def aw0{x:iE}{F:Am.Tr E}{Q:List E->H->Option ag}(R:KG 4 38 bI x.env Q)(L:C 4=Q)(X:I x.env.l<1073741824)(u:F.g 2=O (pB 0))(v:F.g 3=O (pB 1)):
 aD (J1 x) (λ_ _=>False) (λ_ _ _=>False) (aw Z (af Z C n) ⟨3,U⟩ (z f3 pF1) ⟨F,[],(H.e.w (K x.jt 27 G)).w (K (ah (D x.t)) 31 G),U⟩):=by
 have S:z f3 pF1=.region 1 Iv Y:=rfl;rw[S,eg,dJ];have o:=aq2;have T:bj Iv.toList 0 .Nl=s7:=rfl;rw[T];generalize s7=bs at o;simp only[zX]at o;let⟨⟨⟨⟨⟨⟨⟨⟨e,w⟩,f⟩,g⟩,i⟩,y⟩,j⟩,l⟩,p⟩:=o;have M:∀c:List E,zE Z 22 c 0=c[0]?:=λc=>dK (show Am.zK Z 22=O G by kernel_rfl) c 0;have r:Z.u 22=O (zf 38):=by kernel_rfl
 have s:Am.zI Z 22=O 1:=by kernel_rfl
 rcases R with⟨a,d⟩|⟨a,d⟩|⟨W,d⟩
 .have d:∀n m,af Z C n (aj 4 [jw bI x.env] m)=.r (zL U 0 0) m U:=λn m=>ji n (by rw[L];exact d m);have A:=λ(h:H)(q:h.g 2=O (K (ah (ri x.t)) 38 G))=>acK QF (e2:=38) q rfl rfl;have B:=λ(h:H)(q:h.g 0=O (K x.jt 27 G))=>HH (V:=zL (O ⟨3,0,U⟩) 1 1) s rfl rfl q (k:=0) (by show 1<=7;omega);have t:x.rows=[.l x.t]:=by show x.env.l.map DR.d++[DR.l x.t]=_;rw[a];rfl
  simp[Iv,bq,z,f3,u,v,M,d,Vn,Ua,r,A,B,Zw,cV,cZ,cY,dc,dt,cO,cR,e,f,g,i,j,l,p];exact⟨by simp,by simp,by simp,by simp[u],by simp[v],zL (O ⟨3,0,U⟩) 1 1,by simp,zt ⟨3,Y,by simp,by rw[t];rfl,by rw[t];simp;rfl⟩,λb n c q=>(by injection q with q;injection q with q;injection q with q;omega),λb n c q=>(by injection q with q;injection q with q;injection q with q;omega)⟩
 .have d:∀n m,af Z C n (aj 4 [jw bI x.env] m)=.r (zL (O ⟨m.n,0,U⟩) 0 0) (m.w (K [] 38 G)) U:=λn m=>ji n (by rw[L];exact d m);have A:=λ(h:H)(N:h.g 2=O (K [] 38 G))(q:h.g 3=O (K (ah (ri x.t)) 38 G))=>abR QF (e2:=38) N q rfl rfl;have B:=λ(h:H)(q:h.g 0=O (K x.jt 27 G))=>HH (V:=zL (O ⟨4,0,U⟩) 1 1) s rfl rfl q (k:=0) (by show 1<=7;omega);have t:x.rows=[.l x.t]:=by show x.env.l.map DR.d++[DR.l x.t]=_;rw[a];rfl
  simp[Iv,bq,z,f3,u,v,M,d,Vn,Ua,r,A,B,alO,A9,cV,cZ,cY,dc,dt,cO,cR,QU,e,w,f,g,i,y,j,l,p];exact⟨by simp,by simp,by simp,by simp[u],by simp[v],zL (O ⟨4,0,U⟩) 1 1,by simp,zt ⟨4,Y,by simp,by rw[t];rfl,by rw[t];simp;rfl⟩,λb n c q=>(by injection q with q;injection q with q;injection q with q;omega),λb n c q=>(by injection q with q;injection q with q;injection q with q;omega)⟩
 .have d:∀n m,af Z C n (aj 4 [jw bI x.env] m)=.r (zL (O ⟨m.n,0,U⟩) (I x.env.l) (I x.env.l)) (m.w (K (zF bI x.env.l) 38 Y)) U:=λn m=>ji n (by rw[L];exact d m);have A:=λ(h:H)(N:h.g 2=O (K (zF bI x.env.l) 38 Y))(q:h.g 3=O (K (ah (ri x.t)) 38 G))=>acL QF (e2:=38) N (DE.ia _) q rfl rfl (by omega);have B:=λ(h:H)(q:h.g 0=O (K x.jt 27 G))=>HH (V:=zL (O ⟨4,0,U⟩) (I x.env.l+1) (I x.env.l+1)) s rfl rfl q (k:=0) (by show 1<=7;omega);have t:zF pg x.rows=zF bI x.env.l++ah (ri x.t):=by show zF pg (x.env.l.map DR.d++[DR.l x.t])=_;rw[GD,acM,qA];rfl
  have P:I x.rows=I x.env.l+1:=by show(x.env.l.map DR.d++[DR.l x.t]).length=_;simp
  simp[Iv,bq,z,f3,u,v,M,d,Vn,Ua,r,A,B,Zx,A9,cV,cZ,cY,dc,dt,cO,cR,XP,QU,e,w,f,g,i,y,j,l,p];exact⟨by simp,by simp,by simp,by simp[u],by simp[v],zL (O ⟨4,0,U⟩) (I x.env.l+1) (I x.env.l+1),by simp,zt ⟨4,Y,by simp,by rw[P],by rw[t];simp⟩,λb n c q=>(by injection q with q;injection q with q;injection q with q;omega),λb n c q=>(by injection q with q;injection q with q;injection q with q;omega)⟩
structure J2(x:iE)(bV bW:Nat)(tm:Am.Tr E)(h:H):Prop where
 b:h.b=0
 g1:ae h 1 (ad (ah (D x.t)) 31)
 t2:aa tm 2 (pB 0)
 t3:aa tm 3 (pB 1)
 g0:ae h 0 (ad [zL (pO bV) (I x.rows) (I x.rows),x.impl,bL x.dZ,zL (pO bW) (I x.cH.l+1) (I x.cH.l+1),x.lL,x.ns,x.opens] 27)
 gV:∃gr,ae h bV (K (zF pg x.rows) 38 gr)
 gW:∃gr,ae h bW (K (zF zN (x.cH.l++[bR])) 9 gr)
 lo:2<=bV/\bV<bW/\bW<h.n
def aw1{x:iE}{s:Am.Tr E}{S:List E->H->Option ag}(W:KG 5 9 zN x.cH S)(t:C 5=S)(hl:I x.cH.l<1073741824)(j:J1 x s h):
 aD (λs h=>∃c X,J2 x c X s h) ap bE (aF Z (af Z C n) 3 (z f3 pF2) s h):=by
 let⟨f,nx,u,g,v,V,g0,hV,w,y⟩:=j;have i:x.rows≠[]:=by show x.env.l.map DR.d++[DR.l x.t]≠[];simp
 obtain⟨c,l,hbV,rfl,A⟩:∃b l,b<h.n/\V=zL (pO b) (I x.rows) (I x.rows)/\ae h b (K (zF pg x.rows) 38 l):=by
  rcases hV with⟨q,_⟩|q
  .exact absurd q i
  .exact q
 have v0:0≠c:=w _ _ _ rfl;have v1:1≠c:=y _ _ _ rfl;have e:Am.zI Z 24=O 1:=by kernel_rfl
 have F:¬0=h.n:=by omega
 have L:¬1=h.n:=by omega
 have n2:¬0=h.n+1:=by omega
 have n3:¬1=h.n+1:=by omega
 have n4:¬0=h.n+1+1:=by omega
 have n5:¬1=h.n+1+1:=by omega
 have M:¬c=h.n:=by omega
 have N:¬c=h.n+1:=by omega
 have T:¬c=h.n+1+1:=by omega
 have P:¬h.n=0:=by omega
 have Q:¬c=0:=λq=>v0 q.symm;rcases W with⟨a,d⟩|⟨a,d⟩|⟨i,d⟩
 .have d:∀n m,af Z C n (aj 5 [jw zN x.cH] m)=.r (zL U 0 0) m U:=λn m=>ji n (by rw[t];exact d m);have o:=λ(h:H)(B:Nat)(q:ae h B (ad [zN bR] 9))=>acK DD (e2:=9) q rfl rfl;have p:=λ(r:H)(q:ae r 0 (ad (zL (pO c) (I x.rows) (I x.rows)::x.tl) 27))=>HH (V:=zL (pO (h.n+1)) 1 1) e rfl rfl q (k:=3) (by show 4<=7;omega);simp[z,f3,g,f,g0,mG,d,B1,o,p,F];exact⟨c,h.n+1,by simp[f],by simp[u,L,P],by simp[g],by simp[v],by simp[a],⟨l,by simp[Q,M,N,A]⟩,⟨Y,by simp[a];rfl⟩,by omega,by omega,by simp⟩
 .have d:∀n m,af Z C n (aj 5 [jw zN x.cH] m)=.r (zL (pO m.n) 0 0) (m.w (ad [] 9)) U:=λn m=>ji n (by rw[t];exact d m);have o:=λ(h:H)(b B:Nat)(R:ae h b (ad [] 9))(q:ae h B (ad [zN bR] 9))=>abR DD (e2:=9) R q rfl rfl;have p:=λ(r:H)(q:ae r 0 (ad (zL (pO c) (I x.rows) (I x.rows)::x.tl) 27))=>HH (V:=zL (pO (h.n+1+1)) 1 1) e rfl rfl q (k:=3) (by show 4<=7;omega);simp[z,f3,g,f,g0,mG,d,B1,o,p,F];exact⟨c,h.n+1+1,by simp[f],by simp[u,L,P],by simp[g],by simp[v],by simp[a],⟨l,by simp[Q,M,N,T,A]⟩,⟨Y,by simp[a];rfl⟩,by omega,by omega,by simp⟩
 .have d:∀n m,af Z C n (aj 5 [jw zN x.cH] m)=.r (zL (pO m.n) (I x.cH.l) (I x.cH.l)) (m.w (K (zF zN x.cH.l) 9 Y)) U:=λn m=>ji n (by rw[t];exact d m);have o:=λ(h:H)(b B:Nat)(R:ae h b (K (zF zN x.cH.l) 9 Y))(q:ae h B (ad [zN bR] 9))=>acL DD (n:=I x.cH.l) (e2:=9) R (DD.ia _) q rfl rfl (by omega);have p:=λ(r:H)(q:ae r 0 (ad (zL (pO c) (I x.rows) (I x.rows)::x.tl) 27))=>HH (V:=zL (pO (h.n+1+1)) (I x.cH.l+1) (I x.cH.l+1)) e rfl rfl q (k:=3) (by show 4<=7;omega);have hf:zF zN (x.cH.l++[bR])=zF zN x.cH.l++[zN bR]:=by rw[GD];rfl
  simp[z,f3,g,f,g0,mG,d,B1,o,p,F];exact⟨c,h.n+1+1,by simp[f],by simp[u,L,P],by simp[g],by simp[v],by simp,⟨l,by simp[Q,M,N,T,A]⟩,⟨Y,by simp[hf]⟩,by omega,by omega,by simp⟩
def ati{n:List zB}{d:zB}(h:FF n d)(f:oH d):TS d:=by
 let⟨u,j,e,_,o⟩:=h;have l:∀t:zA,jc t->zD t<1073741824/\I (cQ t).1<=150:=λt q=>⟨by have:=q.1;omega,Nat.le_trans (YX _ _) q.2⟩
 have i:0<=d.bD.params/\d.bD.params<=9:=by
  have:=e.pw;by_cases k:d.k=3
  .have:=(e.QA k).1;omega
  .have:=(j.PJ k).1;omega
 refine⟨e.pw.1,i.1,⟨e.fixed,?_⟩,⟨(l _ f.type).1,by have:=(l _ f.type).2;omega⟩,by have:=f.Qi;omega,by have:=f.nru;omega,λc s=>⟨(l _ (f.aY c s)).1,by have:=(l _ (f.aY c s)).2;omega⟩,λk=>?_,λr p=>?_,by have:=f.nfu;omega,λg m=>?_⟩
 .by_cases k:d.k=3
  .have:=(e.QA k).2;have:=f.type.1;omega
  .have:=(j.PJ k).2.2.1;omega
 .let⟨a,b⟩:=Ji (o.value k);exact⟨a.imp λt q=>q.W4 e.pw.1 (by have:=e.pw.2;omega),by omega⟩
 .by_cases k:d.k=3
  .let⟨a,b⟩:=Ji (o.rules k r p);exact⟨a.imp λt q=>q.W4 i.1 (by have:=i.2;omega),by omega⟩
  .rw[(j.PJ k).2.1]at p;cases p
 .by_cases k:d.k=4
  .have:=e.bk g m;exact⟨this.1,by omega,o.bk k g m⟩
  .rw[j.bk (by omega)]at m;cases m
def aoG{d:zB}(h:dH d<bz):Small d:=by have:=qP d;have:=EA d.aY;have:=EB d.bk;unfold bz at h;exact⟨by unfold ao;omega,by unfold ao;omega,by unfold ao;omega⟩
def adr{a:List zB}(c:eP a<bz)(h:s6 a)(f:∀d∈a,oH d):pX a:=by have j:=Hl a;have e:eP a<2097152:=c;refine⟨⟨by unfold ao;omega,λd b=>aoG (xN (Bm (f:=dH) b) c)⟩,λd b=>?_⟩;obtain⟨i,g,rfl⟩:=yk.1 b;exact ati (h.all i g) (f _ b)
def YY{s:ByteArray}{x:zB}:∀(l:List zB)(i:Int),(∀d∈l,s∉bZ d)->fM s i (l++[x])=fM s (i+I l) [x]
 |[],i,_=>by simp
 |d::l,i,h=>by
  have a:ke s (dL d i)=U:=by rw[YV,ajj];exact h d (by simp)
  rw[List.cons_append,fM,a,YY l (i+1) λd b=>h d (by simp[b])];rw[show i+1+(I l:Int)=i+(I (d::l):Int)by rw[yo];omega]
def aq3(t:zA):dH (nJ t)=wt t+20:=by
 have e:wt zT=1:=by rw[rZ];rfl
 rw[qP];show 1+17+wt t+wt zT+0+wt zT+0+0=_;rw[e];omega
def abS{x:iE}(h:x.Ok):Vm x.st x.t:=by let⟨h1,a,b,c,e,d,f⟩:=h;refine⟨⟨h1,a,b,c,by show I x.dZ<ao;unfold ao;omega⟩,?_,by show(x.cH.l++[bR]).length<ao;unfold ao;simp;omega,by unfold bz;omega⟩;show eP (x.env.l++[nJ x.t])<2097152;unfold eP at d⊢;rw[xn,sZ];have:=aq3 x.t;show _+(dH (nJ x.t)+0)<_;omega
structure C8(x:iE):Prop where
 env:s6 x.st.env
 ng:∀d∈x.st.env,oH d
 pi:x.t.w≠6
 e7:(o8 x.dZ x.t).2=Y
def C8.last{x:iE}(a:C8 x):(∀d∈x.env.l,bR∉bZ d)/\aI (rV 0) x.t/\zD x.t<=4096:=by
 have h:I x.env.l<I x.st.env:=by show I x.env.l<I (x.env.l++[nJ x.t]);simp
 have d:=a.env.all _ h
 have b:x.st.env[I x.env.l]=nJ x.t:=by
  have q:x.st.env[I x.env.l]?=O (nJ x.t):=show(x.env.l++[nJ x.t])[I x.env.l]?=_ by simp
  rw[zm h]at q;injection q
 have c:x.st.env.take (I x.env.l)=x.env.l:=by show(x.env.l++[nJ x.t]).take _=_;simp
 rw[b,c]at d;exact⟨d.names bR (by show bR∈[bR];simp),Ji (d.avk.type (show(0:Int)≠4 by decide))⟩
def C8.fd{x:iE}(e:x.Ok)(a:C8 x):(xi.mk x.st x.t zT Y 0 (o8 x.dZ x.t).1).Ok:=by
 let⟨h1,b,g⟩:=a.last;have c:=abS e;have f:=adr c.env a.env a.ng
 have d:fM bR 0 x.st.env=O ⟨0,(I x.env.l:Int),0,0,x.t⟩:=by
  show fM bR 0 (x.env.l++[nJ x.t])=_;rw[YY _ _ h1];show(match ke bR (dL (nJ x.t) (0+(I x.env.l:Int)))with|some x=>O x|none=>fM bR (0+(I x.env.l:Int)+1) [])=_
  rw[Int.zero_add]
  have:ke bR (dL (nJ x.t) (I x.env.l))=O ⟨0,I x.env.l,0,0,x.t⟩:=by show ke bR [(bR,_)]=_;rw[ke,if_pos rfl];rfl
  rw[this]
 refine⟨⟨c.ok,⟨f.small,_,d,rfl,b.imp λt q=>q.clV⟩,?_,a.pi,⟨Ab _,b.imp λt q=>q.flN,by show zD x.t<=60000;omega⟩,⟨b.imp λt q=>q.clV.1,by show zD x.t<=280000000;omega⟩⟩,?_,?_,by show zD x.t<1073741824;omega,?_,c.ins,?_⟩
 .show nk (x.st.env,bR)=x.t;unfold nk;simp only[d]
 .show o8 x.dZ x.t=((o8 x.dZ x.t).1,Y);rw[<-a.e7]
 .show cQ x.t=([],x.t);exact JJ λq=>a.pi q.1
 .show 0<I (x.cH.l++[bR]);simp
 .show(x.cH.l++[bR])[I (x.cH.l++[bR])-1]?=O bR;simp
def fiW{a:List zB}(f:pX a):∃c g,Gn a c g:=by
 let⟨c,h1,h⟩:=asJ;let⟨lf,d⟩:=adV;let⟨l,e⟩:=apL;let⟨i,b⟩:=aqd a f d e;refine⟨c,og i,h1,h,aqh a b,λt j=>?_,λt=>?_⟩
 .unfold og;have:=(b (fa (20000,t)+1)).ok (20000,t) j.nj (yL _);unfold nc at this;split
  .rename_i u k;rw[k]at this;exact this.2.2.1
  .exact cC.zero
 .unfold og;split
  .exact zq rfl
  .exact zt rfl
end Go.Proofs.YtpeialehpoilbaaGreat
