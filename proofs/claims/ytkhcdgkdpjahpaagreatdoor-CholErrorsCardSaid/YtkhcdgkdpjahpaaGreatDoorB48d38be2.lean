/-
  Parts of the proof: Fw21: the framework (Fw), pure forms (Dn), plain laws (Pl, Th), calls of functions (Ok).
-/
import Derived.Test.YtkhcdgkdpjahpaaGreatDoorB66e21c6e

set_option linter.all false
set_option maxHeartbeats 1000000
noncomputable section
namespace Go.h1
section
def kE (d:Nat) (st:aB) (c:List ag) (b:List e7) (a:List az):Bool:=
 gY (dZ c b)&&gY ((hq c b++gz d (gd a) 0 a).map (·.1))&&(gz d (gd a) 0 a).all λe=>(ak st.h e.1).isNone
section
variable {E:dz} {C:c8} {st:aB} {a:Act} {w w':World} {I I' B':Nat->Prop} {rt:Nat->cI} {fp:Nat->cO}
def FI {rt:Nat->cI} {n:cO} {b:List (Nat×az)}:∀{as:List ag} {bs:List e7} {gs:cD},lJ b n as bs->gs.length=bs.length->∀id∈jG as bs,∃c∈eG rt as bs gs,c.1=id/\ak b id=some ⟨c.2.1.1,(match ak b id with|some k=>if f:k.1=c.2.1.1 then f▸k.2 else c.2.1.2|none=>c.2.1.2)⟩
 |[],bs,gs,_,_,id,b=>by cases bs<;>cases b
 |a::as,[],gs,g,_,id,b=>by cases a<;>exact g.elim
 |a::as,e::bs,[],_,h,id,b=>by cases h
 |a::as,e::bs,p::gs,g,h,id,b=>by
  have d:=FI (rt:=rt) (as:=as) (bs:=bs) (gs:=gs) g.2 (by simpa using h) id;have l:=g.1;cases a with
  |ref o j=>cases j with
   |nil=>
    cases e with
    |m k u=>
     simp only[jG,dk] at b;simp only[eG];rcases b with rfl|b
     ·refine⟨_,lR ..,rfl,?_⟩;rw[l.1];simp
     obtain⟨c,i,f⟩:=d b;exact⟨c,eJ _ i,f⟩
    |_=>exact d b
   |cons=>cases e<;>exact d b
  |view o j r f=>cases j with
   |nil=>
    cases e with
    |w x t s q v=>
     simp only[jG,dk] at b;simp only[eG];rcases b with rfl|b
     ·refine⟨_,lR ..,rfl,?_⟩;rw[l.1];simp
     obtain⟨c,i,f⟩:=d b;exact⟨c,eJ _ i,f⟩
    |_=>exact d b
   |cons=>cases e<;>exact d b
  |_=>cases e<;>exact d b
def z6 {e f g:Type} {h:e->f->g->Prop}:∀{as:List e} {c:List f} {d:List g},jy h as c d->c.length=as.length/\d.length=as.length
 |[],c,d,b=>by cases c<;>cases d<;>first|exact⟨rfl,rfl⟩|exact b.elim
 |a::as,[],d,b=>b.elim
 |a::as,i::c,[],b=>b.elim
 |a::as,i::c,l::d,b=>by obtain⟨j,k⟩:=z6 b.2;simp[j,k]
def OY {b:List (Nat×tI)} (j:((b.map λc=>c.2.2.2).flatten).Nodup):(∀c∈b,c.2.2.2.Nodup)/\∀e f g h,ak b e=some g->ak b f=some h->e≠f->∀a∈g.2.2,a∉h.2.2:=by
 induction b with
 |nil=>exact⟨ab,λe f g h j=>by cases j⟩
 |cons t b A=>
  obtain⟨B,t⟩:=t;simp only[eH,iE,hu] at j;obtain⟨v,w,q⟩:=j;obtain⟨i1,z⟩:=A w;refine⟨λc n=>?_,λe f g h i d r a l=>?_⟩
  ·rcases dk.1 n with rfl|n
   ·exact v
   exact i1 c n
  rw[bG] at i d;have s:∀o k,ak b o=some k->∀p∈k.2.2,p∈(b.map λc=>c.2.2.2).flatten:=λo k y p x=>hE.2 ⟨_,c4.2 ⟨(o,k),vd y,rfl⟩,x⟩;split at i
  ·rename_i ai;split at d
   ·rename_i u;exact absurd (ai.symm.trans u) r
   obtain rfl:=dp i;intro m;exact q a l a (s f h d a m) rfl
  split at d
  ·obtain rfl:=dp d;intro m;exact q a m a (s e g i a l) rfl
  exact z e f g h i d r a l
def yI {e:Type}:∀{c:List (Nat×e)},(c.map (·.1)).Nodup->∀{b:Nat×e},b∈c->ak c b.1=some b.2
 |[],_,b,a=>by cases a
 |(k,x)::c,d,b,a=>by
  simp only[eH,h7] at d;rw[bG];rcases dk.1 a with rfl|a
  ·rw[al rfl]
  rw[ah (λf=>d.1 (by rw[f];exact c4.2 ⟨b,a,rfl⟩))];exact yI d.2 a
def HR {e:Nat} {g:Bool}:∀{j:Nat} {f:List az} {a:Nat} {d:ag},(pL e g j f)[a]?=some d->∃c,f[a]?=some c/\d=(bif c.1.pure then .val c.1 c.2 else .ref (og e g (j+a)) [])
 |j,[],a,d,b=>by simp[pL] at b
 |j,c::l,a,d,b=>by
  simp only[pL] at b;cases a with
  |zero=>simp only[iF,bH] at b;exact⟨c,rfl,b.symm⟩
  |succ a=>
   obtain⟨k,h,i⟩:=HR (by simpa using b);exact⟨k,by simpa using h,by rw[i,(U:j+1+a=j+(a+1))]⟩
def HS {b:Nat} {c:Bool}:∀{j:Nat} {a:List az},(pL b c j a).length=a.length
 |j,[]=>rfl
 |j,e::d=>by simp[pL,HS]
def HX {d:Nat} {s:Bool}:∀{j:Nat} {res:List az} {cs:cz} {hs:cD},cs.length=res.length->hs.length=res.length->∀(a:Nat) b c e,res[a]?=some b->cs[a]?=some c->hs[a]?=some e->b.1.pure=false->(og d s (j+a),(b,c,e))∈iv d s j res cs hs
 |j,[],cs,hs,_,_,a,b,c,e,ai,_,_,_=>by simp at ai
 |j,b::k,[],hs,h,_,_,_,_,_,_,_,_,_=>by cases h
 |j,b::k,c::cs,[],_,i,_,_,_,_,_,_,_,_=>by cases i
 |j,b::k,c::cs,e::hs,h,i,a,o,m,n,ai,f,g,l=>by
  simp only[iv];cases a with
  |zero=>
   simp only[iF,bH] at ai f g;subst ai;subst f;subst g;rw[l];exact lR ..
  |succ a=>
   have:=HX (d:=d) (s:=s) (j:=j+1) (res:=k) (cs:=cs) (hs:=hs) (by simpa using h) (by simpa using i) a o m n (by simpa using ai) (by simpa using f) (by simpa using g) l;rw[(U:j+1+a=j+(a+1))] at this;cases b.1.pure
   ·exact eJ _ this
   exact this
end
section
variable {E:dz} {C:c8} {st:aB} {A:Array Oper} {Q:aB->Prop}
def IH {i:List (Nat×az)} {j:cO}:∀{as:List ag} {bs:List e7},lJ i j as bs->∀id∈dZ as bs,∃h,ak i id=some h
 |[],bs,_,id,b=>by cases bs<;>cases b
 |a::as,[],e,id,b=>by cases a<;>exact e.elim
 |a::as,d::bs,e,id,b=>by
  have c:=IH (as:=as) (bs:=bs) e.2 id;have f:=e.1;cases a with
  |ref k g=>cases g with
   |nil=>
    cases d with
    |m h s=>
     simp only[dZ,dk] at b;rcases b with rfl|b
     ·exact⟨_,f.1⟩
     exact c b
    |o h=>
     simp only[dZ,dk] at b;rcases b with rfl|b
     ·exact⟨_,f⟩
     exact c b
    |_=>exact c b
   |cons=>cases d<;>exact c b
  |view k g p l=>cases g with
   |nil=>
    cases d with
    |w u r q n t=>
     simp only[dZ,dk] at b;rcases b with rfl|b
     ·exact⟨_,f.1⟩
     exact c b
    |_=>exact c b
   |cons=>cases d<;>exact c b
  |_=>cases d<;>exact c b
def BV {t:cG} {w:World} {I:Nat->Prop} {rt:Nat->cI} {fp:Nat->cO} (e:bi C st t w I rt fp):∀{a:cO},(∀id∈a,∃b,ak st.h id=some b)->a.Nodup->((a.map fp).flatten).Nodup
 |[],_,_=>by simp
 |id::a,d,f=>by rw[h7] at f;simp only[eH,iE,hu];obtain⟨b,i⟩:=d id ab;refine⟨(e.tree id b i).2.1,BV e (λr p=>d r (by simp[p])) f.2,λk n u o c=>?_⟩;subst c;obtain⟨v,l,m⟩:=hE.1 o;obtain⟨j,g,rfl⟩:=c4.1 l;obtain⟨s,q⟩:=d j (by simp[g]);exact e.dis id j b s i q (λc=>f.1 (c▸g)) k n m
def JO (e:bO->Nat->Prop) (w:World) (c:Nat) (b:List az) (f:Nat->cI) (g:Value):Prop:=
 ∀(d:List (Nat×az)) (rt:Nat->cI) (fp:Nat->cO),(∀a∈gz c (gd b) 0 b,ak d a.1=some a.2/\rt a.1=f a.1)->bk e w d rt fp (rh c b) g
def bi.glob {E:dz} {C:c8} {st:aB} {f:cG} {w:World} {I:Nat->Prop} {rt:Nat->cI} {fp:Nat->cO} (b:bi C st f w I rt fp) (d:∀a,C.I0 a\/C.B a->a<C.w0.heap.size/\¬C.F0 a) (e:iA E C.I0 C.w0):iA E I w:=
 e.mono b.i0 λa c=>b.frame a (d a (.inl c)).1 (d a (.inl c)).2
def bi.call {C:c8} {st:aB} {lb:cG} {w:World} {I:Nat->Prop} {rt:Nat->cI} {fp:Nat->cO} (J:bi C st lb w I rt fp) {o d2:Nat} {q:List ag} {ap:cI} (d8:fY (bk (aY I C.B) w st.h rt fp) q ap) {m:List e7} {k:List az} (gt:oA E d2 m k) (av:lJ st.h (dZ q m) q m) (W:kE o st q m k=true) (i8:∀N:cD,(∀e∈N.flatten,∃id c,ak st.h id=some c/\e∈fp id)->Dn w ap N (ms 0 m)) (f8:iA E I w):Calls E.P d2 ap.toArray w (λQ w'=>∃I' H G v,Q=.returned (m8 v)/\kz C st w w' I I' rt fp (dZ q m) (sC (jG q m)) (hq q m++gz o (gd k) 0 k) H G/\JO (aY I' C.B) w' o k H (m8 v)):=by
 simp only[kE,a5,ew] at W;obtain⟨⟨cs,cv⟩,io⟩:=W;have cs:=gY.ok cs;have cv:=gY.ok cv
 let D:=dZ q m
 let B':Nat->Prop:=λe=>C.B e\/∃id c,ak st.h id=some c/\bV id D=false/\e∈fp id
 have f6:∀e,C.B e->B' e:=λe f=>.inl f;have f7:∀id c,ak st.h id=some c->bV id D=false->∀e∈fp id,B' e:=λid c r l e f=>.inr ⟨id,c,r,l,f⟩;obtain⟨N,hv,el⟩:=D3 J (B':=B') (S:=D) f6 f7 (args:=m) d8 av;have fz:∀id∈D,∃c,ak st.h id=some c:=λid p=>IH av id p;have V:∀e∈N.flatten,∃id∈D,∃c,ak st.h id=some c/\e∈fp id:=(by intro e f;rw[el] at f;obtain⟨lk,F,y⟩:=hE.1 f;obtain⟨id,p,rfl⟩:=c4.1 F;obtain⟨c,r⟩:=fz id p;exact⟨id,p,c,r,y⟩);have hw:N.flatten.Nodup:=(by rw[el];exact BV J fz cs);have hc:=gt w I B' ap N (λe f=>by
  rcases f with f|f|⟨id,c,r,_,f⟩
  ·exact J.ib e (.inl f)
  ·exact J.ib e (.inr f)
  ·exact((J.tree id c r).2.2 e f).2.2.1) hv hw (λe f=>by
  obtain⟨id,p,c,r,T⟩:=V e f;obtain⟨aq,a0,an,f1⟩:=(J.tree id c r).2.2 e T;refine⟨aq,?_,an⟩;rintro(x|⟨fT,a3,jn,l,go⟩)
  ·exact a0 x
  ·have i1:id≠fT:=λQ=>(by rw[<-Q,eQ.2 p] at l;cases l);exact J.dis id fT c a3 r jn i1 e T go) (i8 N λe f=>by
  obtain⟨id,_,c,r,T⟩:=V e f;exact⟨id,c,r,T⟩) f8
 refine hc.mono ?_;rintro Q w' ⟨I',M,L,v,rfl,u⟩;obtain⟨O,Z,ad,am,ft⟩:=HU u.res;have em:=(z6 u.args).2;have d7:lJ st.h D q m:=av
 let n:List (Nat×tI):=eG rt q m M++iv o (gd k) 0 k O L
 have d6:n.map (λb=>(b.1,b.2.1))=hq q m++gz o (gd k) 0 k:=(by simp only[n,h6];rw[Ht em,zj Z ad]);have d5:(n.map (·.1)).Nodup:=(by have:n.map (·.1)=(n.map (λb=>(b.1,b.2.1))).map (·.1):=(by simp[qb]);rw[this,d6];exact cv);have hr:((eG rt q m M).map (λb=>b.2.2.2)).flatten=M.flatten:=Hs d7 u.args;have hs:((iv o (gd k) 0 k O L).map (λb=>b.2.2.2)).flatten.Sublist L.flatten:=HV;have d4:((n.map λb=>b.2.2.2).flatten).Sublist (M.flatten++L.flatten):=(by simp only[n,h6,oE];rw[hr];exact List.Sublist.append (List.Sublist.refl _) hs);obtain⟨ge,gc⟩:=OY (u.sQ.sublist d4);have fn:∀b∈eG rt q m M,aG (aY I' C.B) w' b.2.1.1 b.2.2.1 b.2.1.2 b.2.2.2/\b.2.2.1=rt b.1/\b.1∈D/\∃c,ak st.h b.1=some c/\b.2.1.1=c.1:=(by exact Hu J (S:=D) (args:=m) (gs:=M) d8 av u.args);have gf:∀b∈n,aG (aY I' C.B) w' b.2.1.1 b.2.2.1 b.2.1.2 b.2.2.2/\(b.1∈D\/ak st.h b.1=none):=by
  intro b z;rcases eI.1 z with z|z
  ·obtain⟨aq,_,an,_⟩:=fn b z;exact⟨aq,.inl an⟩
  obtain⟨g,ai,U,a4⟩:=HW Z ad b z;have is:g<v.length:=(by rw[am];exact(ec.1 ai).1);obtain⟨_,X⟩:=ft g _ _ _ v[g] ai U a4 ab;refine⟨X.mono (λds e l=>⟨?_,bB.refl _ _⟩) (λe _=>bB.refl _ _),.inr ?_⟩
  ·cases ds
   ·exact l
   exact l.elim .inl (λx=>x.elim)
  have l:(b.1,b.2.1)∈gz o (gd k) 0 k:=(by rw[<-zj (d:=o) (s:=gd k) (j:=0) Z ad];exact c4.2 ⟨b,z,rfl⟩);exact Option.isNone_iff_eq_none.1 (io _ l)
 have f9:∀b∈n,∀e∈b.2.2.2,e∈M.flatten++L.flatten:=λb z e f=>d4.subset (hE.2 ⟨_,c4.2 ⟨b,z,rfl⟩,f⟩);have dl:∀g,ak (hq q m++gz o (gd k) 0 k) g=(ak n g).map (·.1):=λg=>by rw[<-d6];exact FX (λb:tI=>b.1) n g
 let H:Nat->cI:=λg=>match ak n g with|some b=>b.2.1|none=>[]
 let G:Nat->cO:=λg=>match ak n g with|some b=>b.2.2|none=>[]
 have jp:kz C st w w' I I' rt fp D (sC (jG q m)) (hq q m++gz o (gd k) 0 k) H G:=
  ⟨u.size,u.os,u.tape,u.output,λe f gl=>u.heap e f (λhi=>by obtain⟨id,p,c,r,T⟩:=V e hi;exact gl id p c r T),u.evo,u.i,(λe f=>by
    rcases u.i2 e f with x|⟨F,y|y⟩
    ·exact .inl x
    ·exact .inr ⟨F,.inl y⟩
    exact .inr ⟨F,.inr (V e y)⟩),
   (λid c p=>by
    rw[dl] at p;cases R:ak n id with
    |none=>rw[R] at p;cases p
    |some b=>
     rw[R] at p;obtain rfl:b.1=c:=dp p;have l:=vd R;obtain⟨F,y⟩:=gf _ l;refine⟨y,by simp only[H,G,R];exact F,by simp only[G,R];exact ge _ l,λe f=>?_⟩;simp only[G,R] at f;obtain⟨aq,a0,an,f1⟩:=u.Ee e (f9 _ l e f);exact⟨aq,an,f1.imp (λx=>x) (V e)⟩),
   (λY d1 c lp ci co ii e f=>by
    rw[dl] at ci co;cases bl:ak n Y with
    |none=>rw[bl] at ci;cases ci
    |some kd=>
     cases bs:ak n d1 with
     |none=>rw[bs] at co;cases co
     |some kg=>
      simp only[G,bl] at f;simp only[G,bs];exact gc Y d1 kd kg bl bs ii e f),
   (λf2 ce c r=>by
    obtain⟨id,p,rfl⟩:=c4.1 ce;obtain⟨b,z,Q,_⟩:=FI (rt:=rt) d7 em id p;subst Q;have l:b∈n:=lQ _ z;have eq:=yI d5 l;obtain⟨_,y,_,a3,d3,f5⟩:=fn b z;rw[r] at d3;obtain rfl:=dp d3;exact⟨b.2.1,by rw[dl,eq];rfl,f5,by simp only[H,eq];exact y,⟨c.1,by cases c.1<;>rfl⟩,λb _ _ _ W=>by rw[yC] at W;cases W⟩),
   (λf2 ce c r b _ _ _ _ _ d9=>by
    obtain⟨id,p,rfl⟩:=c4.1 ce;rw[qF] at d9;cases d9)⟩
 refine⟨I',H,G,v,rfl,jp,λF k0 f4 ic=>?_⟩;have f0:∀(g:Nat) (c:az) (A:Value),k[g]?=some c->v[g]?=some A->bk (aY I' C.B) w' F k0 f4 (bif c.1.pure then .val c.1 c.2 else .ref (og o (gd k) (0+g)) []) A:=by
  intro g c A ai U;have is:g<k.length:=(ec.1 ai).1;obtain⟨a4,X⟩:=ft g c O[g] L[g] A ai ab ab U;subst a4;cases fs:c.1.pure with
  |true=>
   simp only[cond_true];have:=X.pure fs;rw[this] at X;refine .val (X.mono (λds e l=>⟨?_,bB.refl _ _⟩) ab);cases ds
   ·exact l
   exact l.elim .inl (λx=>x.elim)
  |false=>
   simp only[cond_false];have ex:=HX (d:=o) (s:=gd k) (j:=0) Z ad g c O[g] L[g] ai ab ab fs;have l:(og o (gd k) (0+g),(c,O[g],L[g]))∈n:=ku _ ex;have i0:(og o (gd k) (0+g),c)∈gz o (gd k) 0 k:=(by rw[<-zj (d:=o) (s:=gd k) (j:=0) Z ad];exact c4.2 ⟨_,ex,rfl⟩);obtain⟨aq,a0⟩:=ic _ i0;refine .ref (t:=c) (loc:=none) aq ?_;have f3:H (og o (gd k) (0+g))=O[g]:=(by simp only[H,yI d5 l]);rw[a0,f3];exact aJ.here
 cases K:k with
 |nil=>
  have:v=[]:=k7 (by rw[am,K];rfl);subst this;exact .dg (vs:=#[]) rfl (λY a A x=>by simp[pL] at x)
 |cons c d0=>
  cases d0 with
  |nil=>
   obtain⟨A,rfl⟩:∃A,v=[A]:=rL.1 (by rw[am,K];rfl);have:=f0 0 c A (by rw[K];rfl) rfl;rw[K] at this;exact this
  |cons la d0=>
   have i3:m8 v=.tuple v.toArray:=by
    have:v.length=(c::la::d0).length:=by rw[am,K]
    match v,this with
    |v1::eu::lo,_=>rfl
   rw[i3];refine .dg (by simp[HS,am,K]) (λY le A F y=>?_);obtain⟨a3,ai,U⟩:=HR F;have:=f0 Y a3 A (by rw[K];exact ai) (by simpa using y);rw[K] at this;rw[U];exact this
def HY {a:Nat} {d:Bool} {c:List az} {e:List (Nat×az)} (f:((e++gz a d 0 c).map (·.1)).Nodup):∀b∈gz a d 0 c,ak (e++gz a d 0 c) b.1=some b.2:=
 λb g=>yI f (ku _ g)
def c5.call {Q:aB->Prop} {k d:Nat} {m:Oper} {f:Operand} {c:List ag} {b s:Array _} (S:m.op=.call {callee:=.value f,args:=b,argTypes:=s}) (Z:aI st.g f=.bZ d c) (K:m.dst=some k) (L:C.ok k) (H:∀(r:cG) (w:World),(callFunc d r).run E.P w=.ok (.enter d r) w) {i:List e7} {n:List az} (G:oA E d i n) (W:ms 0 i=none) (z:∀j,C.I0 j\/C.B j->j<C.w0.heap.size/\¬C.F0 j) (A:iA E C.I0 C.w0) (D:lJ st.h (dZ (b.toList.map (aI st.g)++c) i) (b.toList.map (aI st.g)++c) i) (p:kE k st (b.toList.map (aI st.g)++c) i n=true) (u:Q (KU k st (b.toList.map (aI st.g)++c) i n)):c5 E C m st Q:=by
 rintro a w ⟨I,rt,fp,l⟩ next ap R
 obtain⟨e,Y,y⟩:∃e:cG,a.eval f=.func (.func d) #[] e/\fY (bk (aY I C.B) w st.h rt fp) c e.toList:=by
  have o:=l.aI f;rw[Z] at o;generalize bs:a.eval f=ci at o;cases o with|bZ N M=>
  exact⟨_,rfl,wE (by simpa using N) (λad a j v x=>M ad a j v (by simpa using x))⟩
 have F:fY (bk (aY I C.B) w st.h rt fp) (b.toList.map (aI st.g)++c) (b.toList.map a.eval++e.toList):=z2 (z5 (λf=>l.aI f) _) y;have J:=l.call F G D p (λ_ _=>by rw[W];trivial) (l.glob z A);generalize bl:b.toList.map (aI st.g)++c=a0 at*;have V:(execOp a.eval m).run E.P w=.ok (.enter d (b.toList.map a.eval++e.toList).toArray) w:=(by have ai:b.map a.eval=(b.toList.map a.eval).toArray:=(by rw[<-Array.toList_map]);have t:(b.toList.map a.eval++e.toList).toArray=(b.toList.map a.eval).toArray++e:=ab;rw[t];simp only[execOp,S,resolve,ai,Sem.run_bind,Y,Deferred.ofValue,Sem.run_pure,Result.andThen_ok,invoke,Array.empty_append,Array.append_empty];exact H _ _);unfold Oper.wp;rw[V];show Calls E.P d _ w _;refine J.mono ?_;rintro a3 w' ⟨I',ce,a4,an,rfl,X,U⟩;show next (a.put m.dst (m8 an)) w'
 rw[K];have q:=p;simp only[kE,a5] at q;have O:=gY.ok q.1.2;refine R _ _ _ u rfl ⟨I',_,_,(l.eT X).put L (av:=rh k n) (U _ _ _ (λam T=>?_))⟩;have:=HY O am T;exact⟨by rw[hQ,this];rfl,by simp only[de,this]⟩
end
end
end Go.h1
end
