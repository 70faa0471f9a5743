/-
  Parts of the proof: Fw1, Fw2, Fw3, Fw4, Fw5, Fw6, Fw7, Fw8, Fw40, Fw41, Fw9, Fw10, Fw11, Fw12, Fw13, Fw14, Fw15, Fw16, Fw17, Fw18, Fw19: the framework (Fw), pure forms (Dn), plain laws (Pl, Th), calls of functions (Ok).
-/
import Derived.Laws.AppendOwn
import Derived.ArgAppend
import Derived.Laws.IdiomCopy
import Derived.Laws.Cells
import Derived.Laws.MakeOwn
import Derived.Calls
import Derived.Orders
import Derived.Laws.Entries
import Derived.Maps.RangeRun

set_option linter.all false
set_option maxHeartbeats 1000000
theorem U{p:Prop}(h:p:=by omega):p:=h
theorem aa{p:Prop}(h:p:=by decide):p:=h
theorem ab{p:Prop}(h:p:=by simp):p:=h
abbrev ag:=@if_neg
abbrev aj:=@if_pos
abbrev aG:=@Option.bind_some
abbrev a6:=@Nat.le_refl
abbrev a9:=@List.getElem?_eq_getElem
abbrev bc:=@Bool.and_eq_true
abbrev bn:=@Nat.lt_or_ge
abbrev bD:=@List.getElem_mem
abbrev bF:=@Option.some.injEq
abbrev bM:=@Nat.zero_le
abbrev bR:=@List.mem_map
abbrev bY:=@Int.toNat_natCast
abbrev bZ:=@Option.bind_eq_some_iff
abbrev c8:=@List.take_of_length_le
abbrev db:=@Nat.le_trans
abbrev dg:=@List.mem_cons
abbrev dM:=@Int.le_of_lt
abbrev dS:=@List.length_take
abbrev dX:=@List.mem_append
abbrev dY:=@Option.map_eq_some_iff
abbrev ec:=@List.getElem?_eq_some_iff
abbrev ed:=@List.mem_singleton
abbrev ee:=@Option.some.inj
abbrev eo:=@List.map_cons
abbrev ep:=@Nat.eq_of_beq_eq_true
abbrev eE:=@Int.eq_ofNat_of_zero_le
abbrev eJ:=@List.all_eq_true
abbrev eM:=@Nat.le_of_ble_eq_true
abbrev eS:=@Bool.not_true
abbrev eT:=@List.getElem?_map
abbrev e1:=@List.mem_cons_of_mem
abbrev e2:=@Nat.add_mul
abbrev fc:=@List.getElem?_eq_none
abbrev fd:=@Option.map_some
abbrev fe:=@Prod.mk.injEq
abbrev fi:=@List.nil_append
abbrev fr:=@Nat.min_eq_left
abbrev fJ:=@List.cons.injEq
abbrev fK:=@List.length_map
abbrev fW:=@Bool.not_false
abbrev fX:=@Bool.or_eq_true
abbrev fZ:=@List.map_append
abbrev ga:=@List.pairwise_iff_getElem
abbrev gr:=@List.mem_filter
abbrev gC:=@Int.lt_or_le
abbrev gD:=@List.mem_iff_getElem
abbrev gE:=@Nat.mul_le_mul_right
abbrev gK:=@List.ext_getElem?
abbrev gL:=@List.mem_range
abbrev gM:=@Nat.lt_of_lt_of_le
abbrev gN:=@Nat.one_mul
abbrev gV:=@Int.mul_comm
abbrev gW:=@Nat.pow_add
abbrev hb:=@Int.emod_add_mul_ediv
abbrev hp:=@Nat.two_pow_pos
abbrev hC:=@List.nodup_append
abbrev hD:=@List.take_add_one
abbrev hE:=@Nat.zero_add
abbrev hW:=@Int.mul_le_mul_of_nonneg_left
abbrev hX:=@List.length_cons
abbrev hY:=@List.length_filter_le
abbrev hZ:=@List.map_congr_left
abbrev h0:=@Nat.eq_zero_or_pos
abbrev ie:=@Option.bind_assoc
abbrev ig:=@Option.getD_some
abbrev ir:=@List.flatten_cons
abbrev it:=@List.mem_flatten
abbrev iu:=@Nat.mul_le_mul
abbrev iH:=@List.getD_eq_getElem?_getD
abbrev iI:=@List.getElem?_cons_zero
abbrev iJ:=@List.getElem?_drop
abbrev i9:=@Int.mul_assoc
abbrev ja:=@Int.pow_add
abbrev jb:=@List.append_nil
abbrev jc:=@List.cons_append
abbrev jd:=@List.nodup_cons
abbrev je:=@Nat.pow_succ
abbrev jB:=@Int.natCast_mul
abbrev jD:=@List.filter_cons
abbrev jE:=@List.mem_cons_self
abbrev jF:=@Nat.mul_comm
abbrev ka:=@List.length_drop
abbrev kp:=@Int.ediv_nonneg
abbrev kq:=@Int.mul_le_mul_of_nonneg_right
abbrev kr:=@List.append_assoc
abbrev ks:=@List.getElem?_set_self
abbrev kt:=@List.mem_of_getElem?
abbrev ku:=@List.take_append_drop
abbrev kv:=@Nat.add_zero
abbrev kS:=@List.drop_zero
abbrev kT:=@List.getElem?_take_of_lt
abbrev kU:=@List.mem_append_right
abbrev kV:=@List.range_succ
abbrev ll:=@Int.mul_nonneg
abbrev lm:=@List.eq_nil_of_length_eq_zero
abbrev ln:=@List.filter_append
abbrev lq:=@List.getElem?_append_left
abbrev lr:=@List.getElem?_replicate
abbrev ls:=@List.getElem?_set_ne
abbrev lu:=@List.length_append
abbrev lv:=@Nat.add_sub_cancel_left
abbrev lY:=@Array.getElem?_eq_some_iff
abbrev lZ:=@Bool.eq_iff_iff
abbrev l1:=@Int.emod_nonneg
abbrev l3:=@Int.le_refl
abbrev l4:=@List.filter_eq_self
abbrev l5:=@List.getElem?_append_right
abbrev l6:=@Nat.lt_trichotomy
abbrev mQ:=@Int.pow_pos
abbrev mR:=@List.length_replicate
abbrev mS:=@List.mem_append_left
abbrev mT:=@List.pairwise_cons
abbrev nH:=@Int.ediv_eq_zero_of_lt
abbrev nI:=@Int.emod_lt_of_pos
abbrev nJ:=@Int.mul_pos
abbrev nM:=@List.any_eq_true
abbrev nN:=@List.drop_drop
abbrev nO:=@List.drop_eq_nil_of_le
abbrev nP:=@List.length_range
abbrev nQ:=@List.take_length
abbrev nT:=@Nat.add_assoc
abbrev nU:=@Nat.div_add_mod
abbrev nV:=@Nat.mul_assoc
abbrev nW:=@Nat.pow_le_pow_right
abbrev oJ:=@Array.mem_append_right
abbrev oM:=@Int.ediv_lt_of_lt_mul
abbrev oN:=@List.drop_append_of_le_length
abbrev oO:=@List.drop_of_length_le
abbrev oP:=@List.flatten_append
abbrev oQ:=@List.getElem?_cons_succ
abbrev oR:=@List.getElem?_range
abbrev oS:=@List.length_nil
abbrev pV:=@Array.getElem?_modify
abbrev pY:=@Int.emod_eq_of_lt
abbrev pZ:=@Int.mul_lt_mul_of_pos_right
abbrev p0:=@Int.natAbs_neg
abbrev p1:=@Int.natCast_ediv
abbrev p2:=@Int.zero_mul
abbrev p3:=@List.getElem?_set
abbrev p4:=@List.map_map
abbrev p5:=@List.map_nil
abbrev p6:=@List.size_toArray
abbrev p7:=@Nat.beq_refl
abbrev p8:=@Nat.zero_mul
abbrev rp:=@Int.ediv_ediv_of_nonneg
abbrev rq:=@Int.ediv_le_self
abbrev rr:=@Int.natAbs_natCast
abbrev ru:=@List.all_cons
abbrev rv:=@List.count_append
abbrev rx:=@List.getElem?_take
abbrev ry:=@List.getElem_set_ne
abbrev rz:=@List.length_set
abbrev rA:=@List.perm_iff_count
abbrev rB:=@List.take_append_of_le_length
abbrev rC:=@Nat.div_le_self
abbrev tm:=@Array.getElem?_toList
abbrev tn:=@Array.replicate_succ
abbrev tp:=@Array.replicate_zero
abbrev tu:=@Int.add_mul_ediv_left
abbrev tw:=@List.any_eq_false
abbrev tx:=@List.append_toArray
abbrev tz:=@List.filter_cons_of_neg
abbrev tA:=@List.filter_nil
abbrev tB:=@List.length_eq_one_iff
abbrev tC:=@List.pairwise_map
abbrev tD:=@List.push_toArray
abbrev tE:=@Nat.add_sub_cancel
abbrev vB:=@Array.getElem?_eq_getElem
abbrev vC:=@Array.getElem?_push
abbrev vD:=@Bool.not_eq_true'
abbrev vI:=@Int.add_mul_emod_self_left
abbrev vJ:=@Int.tdiv_eq_ediv_of_nonneg
abbrev vK:=@List.append_of_mem
abbrev vL:=@List.filter_congr
abbrev vM:=@List.filter_cons_of_pos
abbrev vN:=@List.getElem_take
abbrev vO:=@List.map_toArray
abbrev vP:=@List.mem_toArray
abbrev yF:=@Array.getD_eq_getD_getElem?
abbrev yL:=@Int.fdiv_eq_ediv_of_nonneg
abbrev yM:=@Int.lt_of_mul_lt_mul_left
abbrev yN:=@Int.tmod_eq_emod_of_nonneg
abbrev yO:=@List.find?_eq_none
abbrev yP:=@List.getElem?_append
abbrev yQ:=@List.length_pos_iff
abbrev yR:=@List.length_singleton
abbrev yS:=@List.singleton_append
abbrev yT:=@Nat.le_div_iff_mul_le
abbrev yU:=@Nat.testBit_two_pow
abbrev yX:=@Option.isSome_some
abbrev CY:=@Array.getElem?_setIfInBounds_ne
abbrev C2:=@Int.mul_ediv_cancel_left
abbrev C6:=@List.drop_eq_getElem_cons
abbrev C7:=@List.length_eq_zero_iff
abbrev C8:=@List.mem_of_find?_eq_some
abbrev C9:=@List.mem_take_iff_getElem
abbrev Db:=@Option.isSome_iff_exists
abbrev b1:=List (Int×(Int×(List Int×(Int×Unit))))×(Option (List (Int×(Int×(List Int×(Int×Unit)))))×Option (List Int)×Unit)×Unit
abbrev b3:=(List (List Int)×Unit)×List (Int×(Int×(List Int×(Int×Unit))))×Unit
abbrev b4:=List (Int×(Int×(List Int×(Int×Unit))))×(Option Int×Unit)×Unit
abbrev b5:=(List (List Int)×Unit)×(List (List Int)×Unit)×List Int×Unit
abbrev b6:=(Int×List Int×Unit)⊕((List Int×Unit)⊕(List Int×Bool×Unit))
abbrev b7:=(List Int×Unit)⊕((Int×List Int×Unit)⊕(Unit⊕(Int×Unit)))
abbrev b8:=Int×(List (List Int)×Unit)×(List (List Int)×Unit)×Unit
abbrev b9:=(List (List Int)×Unit)×(List (List Int)×Unit)×Unit
abbrev ca:=List Int×(Option (List (List Int)×Unit)×Unit)×Unit
abbrev cb:=(Int×Unit)⊕(Unit⊕((Int×Unit)⊕(Unit⊕(Int×Unit))))
abbrev cc:=Int×(List (List Int)×Unit)×List (List Bool)×Unit
abbrev cd:=List (Int×(Int×(List Int×(Int×Unit))))×Int×Unit
abbrev cf:=(List (List Int)×Unit)×List (List Bool)×Unit
abbrev cg:=Int×(List (List Bool)×(List Bool×Unit))×Unit
abbrev ch:=Unit⊕(Unit⊕((Int×Unit)⊕(Unit⊕(Int×Unit))))
abbrev cj:=(List (List Bool)×(List Bool×Unit))×Unit
abbrev ck:=(Int×List Bool×Unit)⊕(Unit⊕(Bool×Unit))
abbrev cl:=List (Int×(Int×(List Int×(Int×Unit))))
abbrev cm:=(Int×Int×Unit)⊕((Int×Unit)⊕(Int×Unit))
abbrev cn:=(Int×List Bool×Unit)⊕(List Bool×Unit)
abbrev cq:=(List (List Int)×Unit)×List Int×Unit
abbrev cr:=(List Int×Unit)⊕(List Int×Bool×Unit)
abbrev ct:=Unit⊕((Int×Unit)⊕(Unit⊕(Int×Unit)))
abbrev cu:=Int×(List Int×(List Int×Unit))×Unit
abbrev cx:=(Int×Int×Unit)⊕(Unit⊕(Bool×Unit))
abbrev cy:=List (List Bool)×(List Bool×Unit)
abbrev cz:=(List Int×(List Int×Unit))×Unit
abbrev cA:=(List (List Int)×Unit)×Int×Unit
abbrev cB:=Int×(Int×(List Int×(Int×Unit)))
abbrev cC:=(Int×Unit)⊕(Unit⊕(Bool×Unit))
abbrev cD:=(Int×Unit)⊕(Unit⊕(Int×Unit))
abbrev cE:=(List (List Int)×Unit)×Unit
abbrev cF:=Int×List (List Bool)×Unit
abbrev cG:=Int×(List Int×(Int×Unit))
abbrev cH:=List Int×(List Int×Unit)
abbrev cI:=List (List Int)×Int×Unit
abbrev cJ:=List (List Bool)×Unit
abbrev cK:=(Int×Unit)⊕(Int×Unit)
abbrev cL:=List (List Int)×Unit
abbrev cN:=Int×List Bool×Unit
abbrev cO:=List Int×Bool×Unit
abbrev cP:=List Int×Int×Unit
abbrev cQ:=Int×List Int×Unit
abbrev cR:=Nat×Nat×List Nat
abbrev cS:=Unit⊕(Bool×Unit)
abbrev cT:=Int×Int×Int×Unit
abbrev cU:=Unit⊕(Int×Unit)
abbrev cV:=List Bool×Unit
abbrev cW:=Int×Bool×Unit
abbrev cX:=List Int×Unit
abbrev cY:=Bool×Int×Unit
abbrev cZ:=Int×Int×Unit
abbrev c0:=Bool×Unit
abbrev c1:=Int×Unit
abbrev c2:=Nat×Nat
abbrev c3:=List (List Go.Value)
abbrev acT:=Option (List Int)
abbrev acU:=List (Option Int)
abbrev acV:=List (List Bool)
abbrev acW:=List (List Nat)
abbrev acX:=List (List Int)
abbrev acY:=Option Go.Operand
abbrev acZ:=Array Go.Value
abbrev ac0:=List Go.TypeId
abbrev ac1:=List Go.Value
abbrev ac2:=Option Int
abbrev ac3:=Option Nat
abbrev ac4:=List Bool
abbrev ac5:=Option c0
abbrev ac6:=Option c1
abbrev ac7:=List Nat
abbrev ac8:=List Int
abbrev ac9:=List c2
noncomputable section
namespace Go.ia
variable{a w G:TypeId}{b i:Operand}{c h M O:Nat}{e n:World}{g B:ac1}{k D W:Nat->Prop}{m:ac7}{o:Nat->ac1}{p:Nat->ac7}{r T:Option Addr}{s:Exit->Act->World->Prop}{t:Array MapEntry}{u:IntKind}{x:acZ}{z E:Type}{C:Array (Nat×Operand)}{I:Value}{N:Program}{S:Int}{V:acW}
inductive c5 where
 |bB
 |dd
 deriving DecidableEq
variable{f:c5->Nat->Prop}{P:c5}
inductive ai where
 |int (k:IntKind)
 |bool
 |str
 |a5 (m:c5) (t:ai)
 |ptr (m:c5) (t:ai)
 |osl (t:ai)
 |optr (t:ai)
 |st (t:ai)
 |pr (a b:ai)
 |nil
 |c6
 |mp (t:ai)
 |dB (m:c5) (t:ai)
 deriving DecidableEq
variable{d q Q:ai}{j:List (Nat×ai)}
def ai.size:ai->Nat
 |.pr a b=>a.size+b.size
 |.st c=>c.size
 |.nil|.c6=>0
 |_=>1
@[reducible] def ai.den:ai->Type
 |.int _=>Int
 |.bool=>Bool
 |.str=>ByteArray
 |.a5 _ a=>List a.den
 |.ptr _ a=>Option a.den
 |.osl a=>List a.den
 |.optr a=>a.den
 |.st a=>a.den
 |.pr b c=>b.den×c.den
 |.nil=>Unit
 |.c6=>Unit
 |.mp a=>Option (List (Int×a.den)×Nat)
 |.dB _ a=>Option (List (Int×a.den)×Nat)
def iK {d:Type} (b:List (Int×Nat×d)) (c:List (Int×d)) (g:Nat):Prop:=
 c.Pairwise (λe f=>e.1<f.1)/\(b.map λa=>(a.1,a.2.2)).Perm c/\(b.map λa=>a.2.1).Nodup/\∀a∈b,a.2.1<g
def bG:ai->ac1->Value
 |.st _,a=>.agg a.toArray
 |_,a=>a.headD undef
def dL (f:World) (c e:Nat) (d:ac1):Prop:=∀a b,d[a]?=some b->f.cell? ⟨c,e+a,none⟩=some b
def hB (c:World) (b e d:Nat):Prop:=∀a,e<=a->a<d->(c.cell? ⟨b,a,none⟩).isSome=true/\c.frozen? ⟨b,a,none⟩=false
def hk (d:World) (a:Nat):Option (Array MapEntry×Nat):=match d.heap[a]? with
 |some (.map c b)=>some (c,b)
 |_=>none
def bN (c d:World) (a:Nat):Prop:=(∀b,d.cell? ⟨a,b,none⟩=c.cell? ⟨a,b,none⟩/\d.frozen? ⟨a,b,none⟩=c.frozen? ⟨a,b,none⟩)/\hk d a=hk c a
def bN.refl (a:World) (b:Nat):bN a a b:=⟨λ_=>⟨rfl,rfl⟩,rfl⟩
def bN.of_heap (b:n.heap[c]?=e.heap[c]?):bN e n c:=
 ⟨λd=>⟨World.cell?_of_block (a:=⟨c,d,none⟩) b,World.frozen?_of_block (a:=⟨c,d,none⟩) b⟩,by unfold hk;rw[b]⟩
def i7 (j k:World) (d:Nat):Prop:=∀f b,hk j d=some (f,b)->∃g e,hk k d=some (g,e)/\b<=e/\∀(h:Nat) (a:MapEntry),g[h]?=some a->a.born<b->∃(i:Nat) (c:MapEntry),f[i]?=some c/\c.key=a.key/\c.born=a.born
def i7.of_eq (f:hk n c=hk e c):i7 e n c:=
 λd a h=>⟨d,a,f.trans h,a6 _,λi b g _=>⟨i,b,g,rfl,rfl⟩⟩
def i7.refl (a:World) (b:Nat):i7 a a b:=.of_eq rfl
def i7.of_heap {b c:World} {a:Nat} (d:c.heap[a]?=b.heap[a]?):i7 b c a:=.of_eq (bN.of_heap d).2
def i7.trans {b c d:World} {a:Nat} (m:i7 b c a) (n:i7 c d a):i7 b d a:=λj e s=>by obtain⟨k,f,o,p,q⟩:=m j e s;obtain⟨l,g,w,x,y⟩:=n k f o;refine⟨l,g,w,db p x,λt h r E=>?_⟩;obtain⟨u,i,aw,z,A⟩:=y t h r U;obtain⟨v,al,B,C,D⟩:=q u i aw U;exact⟨v,al,B,C.trans z,D.trans A⟩
def dL.et (a:dL e c h g) (d:bN e n c):dL n c h g:=
 λf i b=>by rw[(d.1 _).1];exact a f i b
def hB.et (b:hB e c M h) (a:bN e n c):hB n c M h:=
 λg d f=>by rw[(a.1 _).1,(a.1 _).2];exact b g d f
def aP (i:c5->Nat->Prop) (f:World):(A:ai)->ac1->A.den->ac7->Prop
 |.int x,b,y,d=>d=[]/\b=[.int x y]
 |.bool,b,a,d=>d=[]/\b=[.bool a]
 |.str,b,z,d=>d=[]/\b=[.string z]
 |.a5 s c,b,l,d=>d=[]/\∃k n,b=[.slice k l.length n]/\l.length<=n/\(k=none->n=0)/\(l=[]\/∃a h,k=some ⟨a,h,none⟩/\i s a/\∀j g,l[j]?=some g->∃e,e.length=c.size/\dL f a (h+j*c.size) e/\aP i f c e g [])
 |.ptr s c,b,g,d=>d=[]/\match g with
  |none=>b=[.pointer none]
  |some v=>∃a h e,b=[.pointer (some ⟨a,h,none⟩)]/\i s a/\e.length=c.size/\dL f a h e/\aP i f c e v []
 |.osl c,b,l,d=>∃k n,b=[.slice k l.length n]/\((
   k=none/\l=[]/\n=0/\d=[])\/∃(a h:Nat) (t:acW),k=some ⟨a,h,none⟩/\d=a::t.flatten/\t.length=l.length/\l.length<=n/\
   hB f a h (h+n*c.size)/\∀j g r,l[j]?=some g->t[j]?=some r->∃e,e.length=c.size/\dL f a (h+j*c.size) e/\aP i f c e g r)
 |.optr c,b,v,d=>∃a h r e,b=[.pointer (some ⟨a,h,none⟩)]/\d=a::r/\e.length=c.size/\dL f a h e/\hB f a h (h+c.size)/\aP i f c e v r
 |.st c,b,g,d=>aP i f c b g d
 |.pr k a,b,g,d=>∃w f2,d=w++f2/\aP i f k (b.take k.size) g.1 w/\aP i f a (b.drop k.size) g.2 f2
 |.nil,b,_,d=>d=[]/\b=[]
 |.c6,b,_,_=>b=[]
 |.mp c,b,g,d=>match g with
  |none=>d=[]/\b=[.map none]
  |some (u,q)=>∃(a:Nat) (p:Array MapEntry) (o:List (Int×Nat×c.den)),b=[.map (some a)]/\d=[a]/\iK o u q/\hk f a=some (p,q)/\p.size=o.length/\∀(j:Nat) (m:Int×Nat×c.den),o[j]?=some m->∃e:ac1,e.length=c.size/\p[j]?=some (MapEntry.mk (.int .i64 m.1) (bG c e) m.2.1)/\aP i f c e m.2.2 []
 |.dB s c,b,g,d=>match g with
  |none=>d=[]/\b=[.map none]
  |some (u,q)=>∃(a:Nat) (p:Array MapEntry) (o:List (Int×Nat×c.den)),b=[.map (some a)]/\d=[]/\iK o u q/\i s a/\hk f a=some (p,q)/\p.size=o.length/\∀(j:Nat) (m:Int×Nat×c.den),o[j]?=some m->∃e:ac1,e.length=c.size/\p[j]?=some (MapEntry.mk (.int .i64 m.1) (bG c e) m.2.1)/\aP i f c e m.2.2 []
def aP.len {i:c5->Nat->Prop} {r:World}:∀{τ:ai} {e:ac1} {b:τ.den} {l:ac7},aP i r τ e b l->e.length=τ.size
 |.int _,_,_,_,a=>by rw[a.2];rfl
 |.bool,_,_,_,a=>by rw[a.2];rfl
 |.str,_,_,_,a=>by rw[a.2];rfl
 |.a5 _ _,_,_,_,a=>by obtain⟨_,c,g,a,_⟩:=a;rw[a];rfl
 |.ptr _ _,_,b,_,a=>by
  obtain⟨_,a⟩:=a;cases b with
  |none=>simp only at a;rw[a];rfl
  |some w=>obtain⟨d,v,j,a,_⟩:=a;rw[a];rfl
 |.osl _,_,_,_,a=>by obtain⟨c,g,a,_⟩:=a;rw[a];rfl
 |.optr _,_,_,_,a=>by obtain⟨c,g,s,j,a,_⟩:=a;rw[a];rfl
 |.st f,_,_,_,a=>aP.len (τ:=f) a
 |.pr c d,e,_,_,a=>by obtain⟨t,f2,_,m,n⟩:=a;have o:=aP.len (τ:=c) m;have p:=aP.len (τ:=d) n;simp only[dS,ka] at o p;show e.length=c.size+d.size;omega
 |.nil,_,_,_,a=>by rw[a.2];rfl
 |.c6,_,_,_,a=>by rw[show _=[] from a];rfl
 |.mp f,_,b,_,a=>by
  cases b with
  |none=>rw[a.2];rfl
  |some q=>obtain⟨d,k,h,a,_⟩:=a;rw[a];rfl
 |.dB u f,_,b,_,a=>by
  cases b with
  |none=>rw[a.2];rfl
  |some q=>obtain⟨d,k,h,a,_⟩:=a;rw[a];rfl
def aP.one {j:c5->Nat->Prop} {s:World}:∀{τ:ai} {cs:ac1} {b:τ.den} {m:ac7},aP j s τ cs b m->∀g∈cs,g.oneCell'=true
 |.int _,_,_,_,a=>by rw[a.2];simp[Value.oneCell']
 |.bool,_,_,_,a=>by rw[a.2];simp[Value.oneCell']
 |.str,_,_,_,a=>by rw[a.2];simp[Value.oneCell']
 |.a5 _ _,_,_,_,a=>by obtain⟨_,d,h,a,_⟩:=a;rw[a];simp[Value.oneCell']
 |.ptr _ _,_,b,_,a=>by
  obtain⟨_,a⟩:=a;cases b with
  |none=>simp only at a;rw[a];simp[Value.oneCell']
  |some x=>obtain⟨e,w,k,a,_⟩:=a;rw[a];simp[Value.oneCell']
 |.osl _,_,_,_,a=>by obtain⟨d,h,a,_⟩:=a;rw[a];simp[Value.oneCell']
 |.optr _,_,_,_,a=>by obtain⟨d,h,f,k,a,_⟩:=a;rw[a];simp[Value.oneCell']
 |.st t,_,_,_,a=>aP.one (τ:=t) a
 |.pr d e,cs,_,_,a=>by
  obtain⟨u,f2,_,n,o⟩:=a;have p:=aP.one (τ:=d) n;have q:=aP.one (τ:=e) o;intro g c;rw[<-ku d.size cs] at c;rcases dX.1 c with c|c
  ·exact p g c
  exact q g c
 |.nil,_,_,_,a=>by rw[a.2];simp
 |.c6,_,_,_,a=>by rw[show _=[] from a];simp
 |.mp t,_,b,_,a=>by
  cases b with
  |none=>rw[a.2];simp[Value.oneCell']
  |some r=>obtain⟨e,l,i,a,_⟩:=a;rw[a];simp[Value.oneCell']
 |.dB v t,_,b,_,a=>by
  cases b with
  |none=>rw[a.2];simp[Value.oneCell']
  |some r=>obtain⟨e,l,i,a,_⟩:=a;rw[a];simp[Value.oneCell']
def aP.mono {L M:c5->Nat->Prop} {A B:World} (d:∀j a,L j a->M j a/\bN A B a):∀{τ:ai} {F:ac1} {g:τ.den} {x:ac7},aP L A τ F g x->(∀a∈x,bN A B a)->aP M B τ F g x
 |.int _,_,_,_,b,_=>b
 |.bool,_,_,_,b,_=>b
 |.str,_,_,_,b,_=>b
 |.a5 j w,_,T,_,b,_=>by obtain⟨H,y,E,e,c,k,l⟩:=b;refine⟨H,y,E,e,c,k,l.imp id ?_⟩;rintro⟨a,v,J,i,K⟩;refine⟨a,v,J,(d j a i).1,λu g t=>?_⟩;obtain⟨h,o,p,q⟩:=K u g t;exact⟨h,o,p.et (d j a i).2,aP.mono d q ab⟩
 |.ptr j w,_,g,_,b,_=>by
  obtain⟨H,b⟩:=b;refine⟨H,?_⟩;cases g with
  |none=>exact b
  |some U=>
   obtain⟨a,v,h,e,c,k,l,r⟩:=b;exact⟨a,v,h,e,(d j a c).1,k,l.et (d j a c).2,aP.mono d r ab⟩
 |.osl w,_,T,x,b,f=>by obtain⟨y,E,e,c⟩:=b;refine⟨y,E,e,c.imp id ?_⟩;rintro⟨a,v,P,J,s,S,m,R,K⟩;have i:bN A B a:=f a (by rw[s];simp);refine⟨a,v,P,J,s,S,m,R.et i,λu g C t N=>?_⟩;obtain⟨h,o,p,q⟩:=K u g C t N;refine⟨h,o,p.et i,aP.mono d q (λn m=>f n ?_)⟩;rw[s];exact e1 _ (it.2 ⟨C,kt N,m⟩)
 |.optr w,_,_,_,b,f=>by obtain⟨a,v,C,h,e,c,k,l,r,Q⟩:=b;have i:bN A B a:=f a (by rw[c];simp);exact⟨a,v,C,h,e,c,k,l.et i,r.et i,aP.mono d Q (λn m=>f n (by rw[c];exact e1 _ m))⟩
 |.st w,_,_,_,b,f=>aP.mono (τ:=w) d b f
 |.pr y a,F,_,_,b,f=>by obtain⟨O,f2,s,e,c⟩:=b;exact⟨O,f2,s,aP.mono (τ:=y) d e (λn m=>f n (by rw[s];exact mS _ m)),aP.mono (τ:=a) d c (λn m=>f n (by rw[s];exact kU _ m))⟩
 |.nil,_,_,_,b,_=>b
 |.c6,_,_,_,b,_=>b
 |.mp w,_,g,x,b,f=>by
  cases g with
  |none=>exact b
  |some z=>
   obtain⟨a,G,D,e,c,I,k,l,r⟩:=b;refine⟨a,G,D,e,c,I,(f a (by rw[c];simp)).2.trans k,l,λu z t=>?_⟩;obtain⟨h,o,p,q⟩:=r u z t;exact⟨h,o,p,aP.mono d q ab⟩
 |.dB j w,_,g,x,b,f=>by
  cases g with
  |none=>exact b
  |some z=>
   obtain⟨a,G,D,e,c,I,i,k,l,r⟩:=b;refine⟨a,G,D,e,c,I,(d j a i).1,(d j a i).2.2.trans k,l,λu z t=>?_⟩;obtain⟨h,o,p,q⟩:=r u z t;exact⟨h,o,p,aP.mono d q ab⟩
def ai.il:ai->Bool
 |.c6=>false
 |.a5 _ a|.ptr _ a|.osl a|.optr a|.st a|.mp a|.dB _ a=>a.il
 |.pr b c=>b.il&&c.il
 |_=>true
def aP.uniq {w:c5->Nat->Prop} {B:World}:∀{τ:ai} {r:ac1} {e n:τ.den} {i y:ac7},τ.il=true->aP w B τ r e i->aP w B τ r n y->i=y
 |.int _,_,_,_,_,_,_,a,b=>a.1.trans b.1.symm
 |.bool,_,_,_,_,_,_,a,b=>a.1.trans b.1.symm
 |.str,_,_,_,_,_,_,a,b=>a.1.trans b.1.symm
 |.a5 _ _,_,_,_,_,_,_,a,b=>a.1.trans b.1.symm
 |.ptr _ _,_,_,_,_,_,_,a,b=>a.1.trans b.1.symm
 |.nil,_,_,_,_,_,_,a,b=>a.1.trans b.1.symm
 |.c6,_,_,_,_,_,d,_,_=>by cases d
 |.dB J h,r,e,n,i,y,_,a,b=>by
  have F:∀{e:(ai.dB J h).den} {i:ac7},aP w B (.dB J h) r e i->i=[]:=λ{e i} a=>by
   cases e with
   |none=>exact a.1
   |some T=>obtain⟨j,H,C,_,l,_⟩:=a;exact l
  rw[F a,F b]
 |.mp h,_,e,n,_,_,_,a,b=>by
  cases e with
  |none=>
   cases n with
   |none=>exact a.1.trans b.1.symm
   |some V=>
    obtain⟨j,H,C,f,_⟩:=b;have:=a.2.symm.trans f;simp at this
  |some T=>
   obtain⟨j,H,C,f,l,_⟩:=a;cases n with
   |none=>
    have:=f.symm.trans b.2;simp at this
   |some V=>
    obtain⟨E,a0,Z,g,t,_⟩:=b;have:=f.symm.trans g;simp only[fJ,Value.map.injEq,bF,and_true] at this;rw[l,t,this]
 |.st h,_,_,_,_,_,d,a,b=>aP.uniq (τ:=h) d a b
 |.pr D j,_,_,_,_,_,d,a,b=>by simp only[ai.il,bc] at d;obtain⟨a4,f2,rfl,f,l⟩:=a;obtain⟨bl,bs,rfl,I,z⟩:=b;rw[aP.uniq (τ:=D) d.1 f I,aP.uniq (τ:=j) d.2 l z]
 |.optr h,_,_,_,_,_,d,a,b=>by
  obtain⟨j,K,i,k,f,rfl,I,z,_,Q⟩:=a;obtain⟨E,S,a3,p,g,rfl,ce,P,_,R⟩:=b;rw[f] at g;simp only[fJ,Value.pointer.injEq,bF,Addr.mk.injEq,and_true] at g;obtain⟨rfl,rfl⟩:=g;obtain rfl:k=p:=by
   apply gK;intro c;rcases bn c k.length with m|m
   ·have aw:=z c k[c] (by simp[m]);have v:=P c (p[c]'(by omega)) ab
    rw[aw] at v;simp only[bF] at v;rw[a9 m,a9 U,v]
   rw[fc m,fc U]
  rw[aP.uniq (τ:=h) d Q R]
 |.osl h,_,e,n,_,_,d,a,b=>by
  obtain⟨D,am,f,l⟩:=a;obtain⟨ad,an,g,t⟩:=b;rw[f] at g;simp only[fJ,Value.slice.injEq,and_true] at g;obtain⟨rfl,ci,rfl⟩:=g;rcases l with⟨rfl,rfl,rfl,rfl⟩|⟨j,K,s,rfl,rfl,aw,v,cv,W⟩
  ·rcases t with⟨_,rfl,_,rfl⟩|⟨j,K,s,o,_⟩
   ·rfl
   cases o
  rcases t with⟨o,_⟩|⟨E,S,x,o,rfl,co,cs,dl,X⟩
  ·cases o
  simp only[bF,Addr.mk.injEq,and_true] at o;obtain⟨rfl,rfl⟩:=o;have:s=x:=by
   apply gK;intro c;rcases bn c e.length with m|m
   ·have al:s[c]?=some (s[c]'(by omega)):=a9 U
    have G:x[c]?=some (x[c]'(by omega)):=a9 U
    obtain⟨k,ap,L,N⟩:=W c e[c] _ (by simp[m]) al;obtain⟨p,av,M,O⟩:=X c (n[c]'(by omega)) _ ab G
    obtain rfl:k=p:=by
     apply gK;intro q;rcases bn q k.length with u|u
     ·have Y:=L q k[q] (by simp[u]);have A:=M q (p[q]'(by omega)) ab
      rw[Y] at A;simp only[bF] at A;rw[a9 u,a9 U,A]
     rw[fc u,fc U]
    rw[al,G,aP.uniq (τ:=h) d N O]
   rw[fc U,fc U]
  rw[this]
inductive aW where
 |idx (i:Nat)
 |deref
 |unst
 |fst
 |snd
 deriving DecidableEq
variable{l:List aW}
def c4:(τ:ai)->τ.den->List aW->(a:ai)->a.den->Prop
 |τ,d,[],a,b=>∃i:τ=a,i▸d=b
 |.osl e,k,.idx j::c,a,b=>∃f,k[j]?=some f/\c4 e f c a b
 |.optr e,d,.deref::c,a,b=>c4 e d c a b
 |.st e,d,.unst::c,a,b=>c4 e d c a b
 |.pr g _,d,.fst::c,a,b=>c4 g d.1 c a b
 |.pr _ h,d,.snd::c,a,b=>c4 h d.2 c a b
 |_,_,_,_,_=>False
def dA:(τ:ai)->τ.den->List aW->(a:ai)->a.den->τ.den->Prop
 |τ,_,[],a,b,e=>∃m:τ=a,m▸e=b
 |.osl g,j,.idx i::c,a,b,n=>∃h f,j[i]?=some h/\dA g h c a b f/\n=j.set i f
 |.optr g,d,.deref::c,a,b,e=>dA g d c a b e
 |.st g,d,.unst::c,a,b,e=>dA g d c a b e
 |.pr k _,d,.fst::c,a,b,e=>∃f,dA k d.1 c a b f/\e=(f,d.2)
 |.pr _ l,d,.snd::c,a,b,e=>∃f,dA l d.2 c a b f/\e=(d.1,f)
 |_,_,_,_,_,_=>False
def c4.eQ {a:d.den} {b:q.den}:c4 d a [] q b↔∃c:d=q,c▸a=b:=by cases d<;>exact Iff.rfl
def dA.eQ {e a:d.den} {b:q.den}:dA d e [] q b a↔∃c:d=q,c▸a=b:=by cases d<;>exact Iff.rfl
abbrev Loc:=Option c2
variable{v:Loc}
def aS (k:World):(τ:ai)->Loc->ac1->List aW->(a:ai)->Loc->ac1->Prop
 |τ,i,b,[],a,d,c=>τ=a/\i=d/\b=c
 |.osl g,_,b,.idx m::f,a,d,c=>∃e j n p h,b=[.slice (some ⟨e,j,none⟩) n p]/\m<n/\h.length=g.size/\dL k e (j+m*g.size) h/\aS k g (some (e,j+m*g.size)) h f a d c
 |.optr g,_,b,.deref::f,a,d,c=>∃e j h,b=[.pointer (some ⟨e,j,none⟩)]/\h.length=g.size/\dL k e j h/\aS k g (some (e,j)) h f a d c
 |.st g,i,b,.unst::f,a,d,c=>aS k g i b f a d c
 |.pr l _,i,b,.fst::f,a,d,c=>aS k l i (b.take l.size) f a d c
 |.pr l e,i,b,.snd::f,a,d,c=>aS k e (i.map λo=>(o.1,o.2+l.size)) (b.drop l.size) f a d c
 |_,_,_,_,_,_,_=>False
def dL.eq (f:dL e c h g) (i:dL e c h B) (k:g.length=B.length):g=B:=by
 apply gK;intro a;rcases bn a g.length with b|b
 ·have j:=f a g[a] (by simp[b]);have d:=i a (B[a]'(by omega)) ab
  rw[j] at d;simp only[bF] at d;rw[a9 b,a9 U,d]
 rw[fc b,fc U]
def aS.ij {w:World}:∀{p:List aW} {e:ai} {j:Loc} {f:ac1} {u v:ai} {g h:Loc} {q r:ac1},aS w e j f p u g q->aS w e j f p v h r->u=v/\g=h/\q=r
 |[],e,j,f,_,_,_,_,_,_,b,c=>by simp only[aS] at b c;exact⟨b.1.symm.trans c.1,b.2.1.symm.trans c.2.1,b.2.2.symm.trans c.2.2⟩
 |s::p,e,j,f,_,_,_,_,_,_,b,c=>by
  cases e<;>cases s<;>simp only[aS] at b c
  case osl.idx t i=>
   obtain⟨m,A,E,C,y,al,_,g,k,n⟩:=b;obtain⟨x,B,F,D,z,d,_,h,l,o⟩:=c;rw[al] at d;simp only[fJ,Value.slice.injEq,bF,Addr.mk.injEq,and_true] at d;obtain⟨⟨rfl,rfl⟩,rfl,rfl⟩:=d;obtain rfl:=k.eq l U;exact aS.ij n o
  case optr.deref t=>
   obtain⟨m,A,y,al,g,k,n⟩:=b;obtain⟨x,B,z,d,h,l,o⟩:=c;rw[al] at d;simp only[fJ,Value.pointer.injEq,bF,Addr.mk.injEq,and_true] at d;obtain⟨rfl,rfl⟩:=d;obtain rfl:=k.eq l U;exact aS.ij n o
  case st.unst t=>exact aS.ij b c
  case pr.fst a m=>exact aS.ij b c
  case pr.snd a m=>exact aS.ij b c
def pX (c d:World) (f:Loc) (g:Nat) (b:Nat):Prop:=
 (∀a,(∀e,f=some (b,e)->a<e\/e+g<=a)->d.cell? ⟨b,a,none⟩=c.cell? ⟨b,a,none⟩)/\
 (∀a,d.frozen? ⟨b,a,none⟩=c.frozen? ⟨b,a,none⟩)/\(∀a,(d.cell? ⟨b,a,none⟩).isSome=(c.cell? ⟨b,a,none⟩).isSome)/\hk d b=hk c b
def pX.et (a:pX e n v h c) (f:∀b,v≠some (c,b)):bN e n c:=
 ⟨λd=>⟨a.1 d (λb g=>absurd g (f b)),a.2.1 d⟩,a.2.2.2⟩
def pX.Jl (a:pX e n v O c) (f:hB e c M h):hB n c M h:=
 λg b d=>by rw[a.2.1,a.2.2.1];exact f g b d
def nR (c:World) (e:Loc) (d:ac1) (f:Nat):Prop:=∀b a,e=some (b,a)->dL c b a d/\hB c b a (a+f)
def dL.take {e:World} {b d h:Nat} {c:ac1} (f:dL e b d c):dL e b d (c.take h):=λg i a=>by
 rw[rx] at a;split at a
 ·exact f g i a
 cases a
def dL.drop {f:World} {b e a:Nat} {c:ac1} (g:dL f b e c):dL f b (e+a) (c.drop a):=λh i d=>by rw[iJ] at d;have:=g (a+h) i d;rwa[<-nT] at this
def dL.append (f:dL e h c g) (i:dL e h (c+g.length) B):dL e h c (g++B):=λb d a=>by
 rw[yP] at a;split at a
 ·exact f b d a
 have:=i _ d a;rwa[(U:c+g.length+(b-g.length)=c+b)] at this
def Yc {a:List z} {d:z} (e:a[c]?=some d):∃b f,a=b++d::f/\b.length=c:=by obtain⟨g,rfl⟩:=ec.1 e;exact⟨a.take c,a.drop (c+1),by rw[List.getElem_cons_drop,ku],by simp;omega⟩
def aS.et {E:c5->Nat->Prop} {y D:World}:∀{x:List aW} {τ:ai} {u:Loc} {j:ac1} {z:τ.den} {p:ac7} {A:ai} {v:Loc} {n:ac1},aP E y τ j z p->(∀a∈p,bN y D a)->aS y τ u j x A v n->aS D τ u j x A v n
 |[],τ,_,_,_,_,_,_,_,_,_,b=>by cases τ<;>exact b
 |s::x,τ,u,j,z,p,A,v,n,h,e,b=>by
  cases τ<;>cases s<;>simp only[aS] at b
  case osl.idx t i=>
   obtain⟨a,w,V,G,o,rfl,C,q,g,r⟩:=b;obtain⟨m,Q,f,l⟩:=h;simp only[fJ,Value.slice.injEq,and_true] at f;obtain⟨rfl,rfl,rfl⟩:=f;rcases l with⟨k,_⟩|⟨F,O,L,k,rfl,aw,W,X,P⟩
   ·cases k
   simp only[bF,Addr.mk.injEq,and_true] at k;obtain⟨rfl,rfl⟩:=k;obtain⟨J,R,H,I⟩:=P i z[i] (L[i]'(by omega)) (by simp[C]) ab
   obtain rfl:=g.eq H U;exact⟨a,w,_,G,o,rfl,C,q,g.et (e a ab),aS.et I (λc d=>e c (e1 _ (it.2 ⟨_,bD U,d⟩))) r⟩
  case optr.deref t=>
   obtain⟨a,w,o,rfl,q,g,r⟩:=b;obtain⟨F,O,S,J,B,rfl,T,M,_,N⟩:=h;simp only[fJ,Value.pointer.injEq,bF,Addr.mk.injEq,and_true] at B;obtain⟨rfl,rfl⟩:=B;obtain rfl:=g.eq M U;exact⟨a,w,o,rfl,q,g.et (e a ab),aS.et N (λc d=>e c (by simp[d])) r⟩
  case st.unst t=>exact aS.et (τ:=t) h e b
  case pr.fst m a=>
   obtain⟨K,f2,rfl,f,l⟩:=h;exact aS.et (τ:=m) f (λc d=>e c (by simp[d])) b
  case pr.snd m a=>
   obtain⟨K,f2,rfl,f,l⟩:=h;exact aS.et (τ:=a) l (λc d=>e c (by simp[d])) b
def ng:List aW->Bool
 |[]=>false
 |.idx _::_=>true
 |.deref::_=>true
 |_::a=>ng a
def fj:List aW->List aW->Bool
 |p,[]=>ng p
 |.idx _::p,.idx _::a=>fj p a
 |.deref::p,.deref::a=>fj p a
 |.unst::p,.unst::a=>fj p a
 |.fst::p,.fst::a=>fj p a
 |.snd::p,.snd::a=>fj p a
 |.fst::_,.snd::_=>true
 |.snd::_,.fst::_=>true
 |_,_=>false
def aS.lQ {a:Loc}:aS e d v g [] q a B↔d=q/\v=a/\g=B:=by cases d<;>exact Iff.rfl
def jf:List aW->List aW->Bool
 |.deref::a,.deref::b=>jf a b
 |.unst::a,.unst::b=>jf a b
 |.fst::a,.fst::b=>jf a b
 |.snd::a,.snd::b=>jf a b
 |.fst::_,.snd::_=>true
 |.snd::_,.fst::_=>true
 |_,_=>false
def se (a:List aW):jf [] a=false:=by cases a<;>rfl
def Bb:∀{p q:List aW},jf p q=true->fj p q=true
 |[],q,a=>by rw[se] at a;cases a
 |s::p,[],a=>by cases s<;>cases a
 |s::p,b::q,a=>by cases s<;>cases b<;>first|(cases a;done)|exact Bb (p:=p) (q:=q) a|rfl
def sf:∀{p q:List aW} {τ:ai} {h j:τ.den} {k f:ai} {l:k.den} {i:f.den},jf p q=true->dA τ h p k l j->c4 τ h q f i->c4 τ j q f i
 |[],q,_,_,_,_,_,_,_,d,_,_=>by rw[se] at d;cases d
 |s::p,[],_,_,_,_,_,_,_,d,_,_=>by cases s<;>cases d
 |s::p,m::q,τ,h,j,k,f,l,i,d,c,e=>by
  cases τ<;>cases s<;>simp only[dA] at c<;>cases m<;>first|(cases d;done)|(simp only[c4] at e;done)|skip
  case optr.deref.deref t=>exact sf (p:=p) (q:=q) (τ:=t) d c e
  case st.unst.unst t=>exact sf (p:=p) (q:=q) (τ:=t) d c e
  case pr.fst.fst a b=>
   obtain⟨g,c,rfl⟩:=c;exact sf (p:=p) (q:=q) (τ:=a) d c e
  case pr.snd.snd a b=>
   obtain⟨g,c,rfl⟩:=c;exact sf (p:=p) (q:=q) (τ:=b) d c e
  case pr.fst.snd a b=>
   obtain⟨g,c,rfl⟩:=c;exact e
  case pr.snd.fst a b=>
   obtain⟨g,c,rfl⟩:=c;exact e
def aP.sub {C:c5->Nat->Prop} {B:World}:∀{p:List aW} {τ:ai} {A:Loc} {q:ac1} {n:τ.den} {m:ac7} {l:ai} {r:l.den} {z:Loc} {o:ac1},aP C B τ q n m->c4 τ n p l r->aS B τ A q p l z o->∃e,aP C B l o r e/\∀b∈e,b∈m
 |[],τ,A,q,n,m,l,r,z,o,d,c,a=>by obtain⟨rfl,rfl⟩:=c4.eQ.1 c;obtain⟨_,_,rfl⟩:=aS.lQ.1 a;exact⟨m,d,λb L=>L⟩
 |s::p,τ,A,q,n,m,l,r,z,o,d,c,a=>by
  cases τ<;>cases s<;>simp only[c4] at c<;>simp only[aS] at a
  case osl.idx t i=>
   obtain⟨J,y,c⟩:=c;obtain⟨G,R,am,X,I,f,u,M,v,a⟩:=a;obtain⟨V,W,rfl,d⟩:=d;rcases d with⟨_,rfl,_⟩|⟨F,Q,D,rfl,rfl,ad,Y,O,P⟩
   ·simp at y
   have Z:i<n.length:=(ec.1 y).1;obtain⟨e,E⟩:∃e,D[i]?=some e:=⟨D[i],a9 U⟩;obtain⟨H,N,w,x⟩:=P i J e y E;simp only[fJ,Value.slice.injEq,bF,Addr.mk.injEq,and_true] at f;obtain⟨⟨rfl,rfl⟩,rfl,rfl⟩:=f;obtain rfl:=v.eq w U;obtain⟨g,j,k⟩:=aP.sub (p:=p) x c a;exact⟨g,j,λb h=>e1 _ (it.2 ⟨e,kt E,k b h⟩)⟩
  case optr.deref t=>
   obtain⟨G,R,I,f,M,v,a⟩:=a;obtain⟨F,Q,e,H,rfl,rfl,N,w,O,x⟩:=d;simp only[fJ,Value.pointer.injEq,bF,Addr.mk.injEq,and_true] at f;obtain⟨rfl,rfl⟩:=f;obtain rfl:=v.eq w U;obtain⟨g,j,k⟩:=aP.sub (p:=p) x c a;exact⟨g,j,λb h=>e1 _ (k b h)⟩
  case st.unst t=>exact aP.sub (p:=p) (τ:=t) d c a
  case pr.fst S T=>
   obtain⟨K,f2,rfl,f,u⟩:=d;obtain⟨g,j,k⟩:=aP.sub (p:=p) f c a;exact⟨g,j,λb h=>mS _ (k b h)⟩
  case pr.snd S T=>
   obtain⟨K,f2,rfl,f,u⟩:=d;obtain⟨g,j,k⟩:=aP.sub (p:=p) u c a;exact⟨g,j,λb h=>kU _ (k b h)⟩
def xj:∀(Z:List aW) {τ:ai} {loc:Loc} {u:ac1} {an:τ.den} {fn:ac7} {F:ai} {i8:F.den},aP f e τ u an fn->nR e loc u τ.size->fn.Nodup->(∀d g,loc=some (d,g)->d∉fn/\∀r,¬f r d)->(∀d∈fn,∀r,¬f r d)->c4 τ an Z F i8->∃y V a0 X,aS e τ loc u Z F y V/\aP f e F V i8 a0/\nR e y V F.size/\fn.Perm (a0++X)/\(∀m h,y=some (m,h)->(∃g,loc=some (m,g)/\g<=h/\h+F.size<=g+τ.size)\/m∈X)/\(∀(
   s:World) (L:c5->Nat->Prop) (D:ac1) (z:F.den) (Y:ac7) (d1:τ.den),
   (∀r d,f r d->L r d)->(∀d,(∃r,f r d)\/d∈X\/(∃g,loc=some (d,g))->pX e s y F.size d)->
   aP L s F D z Y->(y=none->Z≠[]->D=V)->(∀d g,y=some (d,g)->dL s d g D)->dA τ an Z F z d1->
   ∃q Q,aP L s τ q d1 Q/\(Z=[]->q=D)/\(loc=none->(y≠none\/D=V)->q=u)/\(∀d g,loc=some (d,g)->dL s d g q)/\Q.Perm (Y++X)/\aS s τ loc q Z F y D/\∀(c:List aW) (T:ai) (S:Loc) (P:ac1),fj Z c=true->aS e τ loc u c T S P->aS s τ loc q c T S P)/\
  (∀(c:List aW) (ap:ai) (z:ap.den) (am:Loc) (dl:ac1) (f2:ac7),jf Z c=true->ap.il=true->c4 τ an c ap z->aS e τ loc u c ap am dl->aP f e ap dl z f2->∀b∈f2,b∈X/\∀m h,y=some (m,h)->b≠m):=by
 intro Z
 induction Z with
 |nil=>
  intro τ loc u an fn F i8 el cs d9 R bs H;obtain⟨rfl,rfl⟩:=c4.eQ.1 H;refine⟨loc,u,fn,[],(by cases τ<;>exact⟨rfl,rfl,rfl⟩),el,cs,ab,λm h a=>.inl ⟨h,a,U,U⟩,?_,λc _ _ _ _ _ a=>by rw[se] at a;cases a⟩;intro s L D z Y d1 _ _ A _ M B;obtain⟨_,rfl⟩:=dA.eQ.1 B;exact⟨D,Y,A,λ_=>rfl,λco a=>a.resolve_left (λc=>c co),M,ab,(by cases τ<;>exact⟨rfl,rfl,rfl⟩),λc _ _ _ n=>by cases c<;>simp[fj,ng] at n⟩
 |cons rt Z hs=>
  intro τ loc u an fn F i8 el cs d9 R bs H;cases τ<;>cases rt<;>simp only[c4] at H
  case osl.idx t i=>
   obtain⟨av,fT,H⟩:=H;obtain⟨s0,ex,rfl,el⟩:=el;rcases el with⟨_,rfl,_⟩|⟨d,g,f8,rfl,rfl,mz,pl,hc,lk⟩
   ·simp at fT
   have i0:i<an.length:=(ec.1 fT).1;obtain⟨gi,mo⟩:∃gi,f8[i]?=some gi:=⟨f8[i],a9 U⟩;obtain⟨gc,kg,fz,k0⟩:=lk i av gi fT mo;obtain⟨d0,i3,f0,rs⟩:=Yc mo;have pm:∀w,w<an.length->g+w*t.size+t.size<=g+ex*t.size:=λw n=>(by have:(w+1)*t.size<=ex*t.size:=gE _ U;rw[e2,gN] at this;omega);have f7:nR e (some (d,g+i*t.size)) gc t.size:=(by rintro O o a;simp only[bF,fe] at a;obtain⟨rfl,rfl⟩:=a;exact⟨fz,λx l M=>hc x U (by have:=pm i i0;omega)⟩);have le:=d9;rw[f0] at le;simp only[oP,ir,jd,hC,dX,not_or] at le;obtain⟨⟨op,fs,or⟩,lb,⟨f3,f9,ps⟩,rd⟩:=le;obtain⟨y,V,a0,X,d3,d4,d5,G,W,d6,fp⟩:=hs (loc:=some (d,g+i*t.size)) k0 f7 f3 (by rintro O o a;simp only[bF,fe] at a;obtain⟨rfl,rfl⟩:=a;exact⟨fs,bs d ab⟩) (λb k=>bs b (by rw[f0];simp[k])) H;refine⟨y,V,a0,d::(d0.flatten++(X++i3.flatten)),⟨d,g,_,ex,gc,rfl,i0,kg,fz,d3⟩,d4,d5,?_,?_,?_,λc _ _ _ _ _ a=>by cases c with|nil=>cases a|cons I c=>cases I<;>cases a⟩
   ·rw[f0];simp only[oP,ir];rw[rA] at G|-;intro b;have:=G b;simp only[rv,List.count_cons] at this|-;omega
   ·intro m h a;right;rcases W m h a with⟨o,l,_⟩|l
    ·simp only[bF,fe] at l;rw[l.1];simp
    simp[l]
   intro s L D z Y d1 a4 v A ek d7 B;simp only[dA] at B;obtain⟨ok,ge,mc,B,rfl⟩:=B;obtain rfl:ok=av:=(by rw[fT] at mc;exact(ee mc).symm);obtain⟨q,Q,C,_,_,N,ad,em,ci⟩:=d6 s L D z Y ge a4 (by
     rintro b (a|a|⟨o,a⟩)
     ·exact v b (.inl a)
     ·exact v b (.inr (.inl (by simp[a])))
     simp only[bF,fe] at a;exact v b (.inr (.inl (by rw[<-a.1];simp)))) A
    (by
     intro co t0;exact ek co ab) d7 B
   have bl:∀m h,y=some (m,h)->(m=d/\g+i*t.size<=h/\h+F.size<=g+i*t.size+t.size)\/m∈gi:=by
    intro m h a;rcases W m h a with⟨o,l,M,gl⟩|l
    ·simp only[bF,fe] at l;obtain⟨rfl,rfl⟩:=l;exact .inl ⟨rfl,M,gl⟩
    exact .inr (G.mem_iff.2 (by simp[l]))
   have ft:=v d (.inr (.inl ab));have gs:∀r b,f r b->L r b/\bN e s b:=λr b k=>⟨a4 r b k,(v b (.inl ⟨r,k⟩)).et (λo a=>by
    rcases bl b o a with⟨rfl,_⟩|l
    ·exact bs b ab r k
    exact bs b (by rw[f0];simp[l]) r k)⟩
   have nd:∀(w:Nat) (io:t.den) (a3:ac7),w≠i->an[w]?=some io->f8[w]?=some a3->∀d2:ac1,d2.length=t.size->dL e d (g+w*t.size) d2->dL s d (g+w*t.size) d2/\∀b∈a3,bN e s b:=by
    intro w io a3 hi n ds d2 i2 hw;have tt:w<an.length:=(ec.1 n).1;have la:∀b∈a3,b∈d0.flatten\/b∈i3.flatten:=by
     intro b k;rw[f0] at ds;rcases bn w d0.length with a|a
     ·rw[lq a] at ds;exact .inl (it.2 ⟨a3,kt ds,k⟩)
     rw[l5 a] at ds;obtain⟨c,E⟩:∃c,w-d0.length=c+1:=⟨w-d0.length-1,U⟩;rw[E] at ds;simp only[oQ] at ds;exact .inr (it.2 ⟨a3,kt ds,k⟩)
    refine⟨?_,?_⟩
    ·intro x ii f1;have i1:x<d2.length:=(ec.1 f1).1;rw[ft.1]
     ·exact hw x ii f1
     intro h a;rcases bl d h a with⟨_,l,M⟩|l
     ·rcases Nat.lt_or_gt_of_ne hi with ty|to
      ·left;have:(w+1)*t.size<=i*t.size:=gE _ U;rw[e2,gN] at this;omega
      right;have:(i+1)*t.size<=w*t.size:=gE _ U;rw[e2,gN] at this;omega
     exact absurd l fs
    intro b k;refine(v b (.inr (.inl ?_))).et ?_
    ·rcases la b k with a|a<;>simp[a]
    intro h a;rcases bl b h a with⟨rfl,_⟩|l
    ·rcases la b k with a|a
     ·exact op a
     exact or a
    rcases la b k with a|a
    ·exact rd b a b (.inl l) rfl
    exact ps b l b a rfl
   refine⟨[.slice (some ⟨d,g,none⟩) an.length ex],d::(d0++Q::i3).flatten,⟨some ⟨d,g,none⟩,ex,ab,.inr ⟨d,g,d0++Q::i3,rfl,rfl,?_,by simpa using pl,ft.Jl hc,?_⟩⟩,ab,λ_ _=>rfl,?_,?_,⟨d,g,_,ex,q,rfl,i0,by rw[C.len],N d _ rfl,em⟩,?_⟩
   ·rw[f0] at mz;simpa using mz
   ·intro w io a3 n H;by_cases hi:w=i
    ·subst hi;rw[ks i0] at n;obtain rfl:=ee n;rw[l5 U,rs,Nat.sub_self] at H;simp only[iI,bF] at H;subst H;exact⟨q,by rw[C.len],N d _ rfl,C⟩
    rw[ls (λa=>hi a.symm)] at n;have ds:f8[w]?=some a3:=by
     rw[f0];rcases bn w d0.length with a|a
     ·rw[lq a] at H|-;exact H
     rw[l5 a] at H|-;obtain⟨c,E⟩:∃c,w-d0.length=c+1:=⟨w-d0.length-1,U⟩;rw[E] at H|-;simpa using H
    obtain⟨d2,i2,hw,lp⟩:=lk w io a3 n ds;obtain⟨lt,l2⟩:=nd w io a3 hi n ds d2 i2 hw;exact⟨d2,i2,lt,lp.mono gs l2⟩
   ·intro O o a;have gt:=(R O o a).1;refine((cs O o a).1).et ((v O (.inr (.inr ⟨o,a⟩))).et ?_);intro h f5;rcases bl O h f5 with⟨rfl,_⟩|l
    ·exact gt ab
    exact gt (by rw[f0];simp[l])
   ·rw[rA] at ad|-;intro b;have:=ad b;simp only[oP,ir,rv,List.count_cons] at this|-;omega
   intro c T S P n E;cases c with
   |nil=>exact E
   |cons I c=>
    cases I<;>simp only[fj] at n<;>first|(cases n;done)|skip
    rename_i x;obtain⟨O,o,t2,tf,jp,l,M,gl,go,is⟩:=E;simp only[fJ,Value.slice.injEq,bF,Addr.mk.injEq,and_true] at l;obtain⟨⟨rfl,rfl⟩,rfl,rfl⟩:=l;by_cases mt:x=i
    ·subst mt;obtain rfl:=go.eq fz U;exact⟨d,g,_,ex,q,rfl,M,C.len,N d _ rfl,ci c T S P n is⟩
    have no:an[x]?=some an[x]:=a9 M;have mp:f8[x]?=some (f8[x]'(by omega)):=a9 _
    obtain⟨d2,i2,hw,lp⟩:=lk x _ _ no mp;obtain rfl:=go.eq hw U;obtain⟨lt,l2⟩:=nd x _ _ mt no mp jp gl go;exact⟨d,g,_,ex,jp,rfl,M,gl,lt,aS.et lp l2 is⟩
  case optr.deref t=>
   obtain⟨d,g,gi,gc,rfl,rfl,kg,fz,hc,k0⟩:=el;simp only[jd] at d9;obtain⟨os,rg⟩:=d9;have f7:nR e (some (d,g)) gc t.size:=(by rintro O o a;simp only[bF,fe] at a;obtain⟨rfl,rfl⟩:=a;exact⟨fz,hc⟩);obtain⟨y,V,a0,X,d3,d4,d5,G,W,d6,fp⟩:=hs (loc:=some (d,g)) k0 f7 rg (by rintro O o a;simp only[bF,fe] at a;obtain⟨rfl,rfl⟩:=a;exact⟨os,bs d ab⟩) (λb k=>bs b (by simp[k])) H;refine⟨y,V,a0,d::X,⟨d,g,gc,rfl,kg,fz,d3⟩,d4,d5,?_,?_,?_,?_⟩
   rotate_left 3
   ·intro c ap z am dl f2 a f3 d8 ce A b k;cases c with
    |nil=>cases a
    |cons I c=>
     cases I<;>first|(cases a;done)|skip
     simp only[aS] at ce;obtain⟨O,o,ti,al,tl,ol,ce⟩:=ce;simp only[fJ,Value.pointer.injEq,bF,Addr.mk.injEq,and_true] at al;obtain⟨rfl,rfl⟩:=al;obtain rfl:=ol.eq fz U;obtain⟨aw,K⟩:=fp c ap z am dl f2 a f3 d8 ce A b k;exact⟨by simp[aw],K⟩
   ·rw[rA] at G|-;intro b;have:=G b;simp only[rv,List.count_cons] at this|-;omega
   ·intro m h a;right;rcases W m h a with⟨o,l,_⟩|l
    ·simp only[bF,fe] at l;rw[l.1];simp
    simp[l]
   intro s L D z Y d1 a4 v A ek d7 B;simp only[dA] at B;obtain⟨q,Q,C,_,_,N,ad,em,ci⟩:=d6 s L D z Y d1 a4 (by
     rintro b (a|a|⟨o,a⟩)
     ·exact v b (.inl a)
     ·exact v b (.inr (.inl (by simp[a])))
     simp only[bF,fe] at a;exact v b (.inr (.inl (by rw[<-a.1];simp)))) A
    (λco _=>ek co ab) d7 B
   have ft:=v d (.inr (.inl ab));refine⟨[.pointer (some ⟨d,g,none⟩)],d::Q,⟨d,g,Q,q,rfl,rfl,C.len,N d g rfl,ft.Jl hc,C⟩,ab,λ_ _=>rfl,?_,?_,⟨d,g,q,rfl,C.len,N d g rfl,em⟩,?_⟩
   ·intro O o a;have gt:=(R O o a).1;refine((cs O o a).1).et ((v O (.inr (.inr ⟨o,a⟩))).et ?_);intro h f5;rcases W O h f5 with⟨n5,l,_⟩|l
    ·simp only[bF,fe] at l;exact gt (by rw[l.1];simp)
    exact gt (e1 _ (G.mem_iff.2 (by simp[l])))
   ·rw[rA] at ad|-;intro b;have:=ad b;simp only[rv,List.count_cons] at this|-;omega
   intro c T S P n E;cases c with
   |nil=>exact E
   |cons I c=>
    cases I<;>simp only[fj] at n<;>first|(cases n;done)|skip
    obtain⟨O,o,jp,l,gl,go,is⟩:=E;simp only[fJ,Value.pointer.injEq,bF,Addr.mk.injEq,and_true] at l;obtain⟨rfl,rfl⟩:=l;obtain rfl:=go.eq fz U;exact⟨d,g,q,rfl,C.len,N d g rfl,ci c T S P n is⟩
  case st.unst t=>
   obtain⟨y,V,a0,X,d3,d4,d5,G,W,d6,fp⟩:=hs (loc:=loc) (τ:=t) el cs d9 R bs H;refine⟨y,V,a0,X,d3,d4,d5,G,W,?_,?_⟩
   rotate_left 1
   ·intro c ap z am dl f2 a f3 d8 ce A b k;cases c with
    |nil=>cases a
    |cons I c=>
     cases I<;>first|(cases a;done)|skip
     exact fp c ap z am dl f2 a f3 d8 ce A b k
   intro s L D z Y d1 a4 v A ek d7 B;obtain⟨q,Q,C,t1,hv,N,ad,em,ci⟩:=d6 s L D z Y d1 a4 v A (λco _=>ek co ab) d7 B;refine⟨q,Q,C,ab,hv,N,ad,em,?_⟩;intro c T S P n E;cases c with
   |nil=>
    obtain⟨rfl,rfl,rfl⟩:=aS.lQ.1 E;obtain⟨_,_,av⟩:=aS.lQ.1 (ci [] t loc u (by simpa[fj,ng] using n) (aS.lQ.2 ⟨rfl,rfl,rfl⟩));exact aS.lQ.2 ⟨rfl,rfl,av⟩
   |cons I c=>
    cases I<;>simp only[fj] at n<;>first|(cases n;done)|skip
    exact ci c T S P n E
  case pr.fst j cv=>
   obtain⟨f4,f2,rfl,l,M⟩:=el;have lo:=l.len;have am:=M.len;simp only[dS,ka] at lo am;have f7:nR e loc (u.take j.size) j.size:=λd g a=>⟨(cs d g a).1.take,λx aw K=>(cs d g a).2 x aw (by show x<g+(j.size+cv.size);omega)⟩;simp only[hC] at d9;obtain⟨lb,f3,f9⟩:=d9;obtain⟨y,V,a0,X,d3,d4,d5,G,W,d6,fp⟩:=hs (loc:=loc) l f7 lb (λd g a=>⟨λc=>(R d g a).1 (by simp[c]),(R d g a).2⟩) (λb k=>bs b (by simp[k])) H;refine⟨y,V,a0,X++f2,d3,d4,d5,?_,?_,?_,?_⟩
   rotate_left 3
   ·intro c ap z am dl kd a hr d8 ce A b k;cases c with
    |nil=>cases a
    |cons I c=>
     cases I<;>first|(cases a;done)|skip
     ·obtain⟨aw,K⟩:=fp c ap z am dl kd a hr d8 ce A b k;exact⟨by simp[aw],K⟩
     obtain⟨a3,C,N⟩:=aP.sub (p:=c) M d8 ce;have f6:b∈f2:=N b (by rw[<-aP.uniq hr A C];exact k);refine⟨by simp[f6],λm h fT av=>?_⟩;subst av;rcases W b h fT with⟨o,al,_⟩|al
     ·exact(R b o al).1 (by simp[f6])
     exact f9 b (G.mem_iff.2 (by simp[al])) b f6 rfl
   ·rw[rA] at G|-;intro b;have:=G b;simp only[rv] at this|-;omega
   ·intro m h a;rcases W m h a with⟨o,aw,K,ib⟩|aw
    ·exact .inl ⟨o,aw,K,by show h+F.size<=o+(j.size+cv.size);omega⟩
    exact .inr (by simp[aw])
   intro s L D z Y d1 a4 v A ek d7 B;simp only[dA] at B;obtain⟨ge,B,rfl⟩:=B;obtain⟨q,Q,C,_,hv,N,ad,em,ci⟩:=d6 s L D z Y ge a4 (by
     rintro b (a|a|a)
     ·exact v b (.inl a)
     ·exact v b (.inr (.inl (by simp[a])))
     exact v b (.inr (.inr a))) A (λco _=>ek co ab) d7 B
   have bl:∀m h,y=some (m,h)->(∃g,loc=some (m,g)/\g<=h/\h+F.size<=g+j.size)\/m∈f4:=λm h a=>(W m h a).imp id (λc=>G.mem_iff.2 (by simp[c]));have gs:∀r b,f r b->L r b/\bN e s b:=λr b k=>⟨a4 r b k,(v b (.inl ⟨r,k⟩)).et (λo a=>by
    rcases bl b o a with⟨g,c,_⟩|c
    ·exact(R b g c).2 r k
    exact bs b (by simp[c]) r k)⟩
   have nn:∀b∈f2,bN e s b:=λb k=>(v b (.inr (.inl (by simp[k])))).et (λh a=>by
    rcases bl b h a with⟨g,c,_⟩|c
    ·exact(R b g c).1 (by simp[k])
    exact f9 b c b k rfl)
   have nx:=C.len;refine⟨q++u.drop j.size,Q++f2,⟨Q,f2,rfl,?_,?_⟩,ab,?_,?_,?_,(by
    show aS s j loc ((q++u.drop j.size).take j.size) Z F y D;rw[rB U,c8 U];exact em),?_⟩
   ·rw[rB U,c8 U];exact C
   ·rw[oN U,oO U,fi];exact M.mono gs nn
   ·intro aw K;rw[hv aw K,ku]
   ·intro d g a;refine(N d g a).append ?_;rw[nx];intro x ii f1;have ft:=v d (.inr (.inr ⟨g,a⟩));have i1:x<(u.drop j.size).length:=(ec.1 f1).1;simp only[ka] at i1;rw[ft.1]
    ·exact((cs d g a).1.drop) x ii f1
    intro h f5;rcases bl d h f5 with⟨n5,aw,K,ib⟩|c
    ·rw[a] at aw;simp only[bF,fe,true_and] at aw;right;omega
    exact absurd (by simp[c]) (R d g a).1
   ·rw[rA] at ad|-;intro b;have:=ad b;simp only[rv] at this|-;omega
   intro c T S P n E;have al:(q++u.drop j.size).take j.size=q:=(by rw[rB U,c8 U]);have gf:(q++u.drop j.size).drop j.size=u.drop j.size:=(by rw[oN U,oO U,fi]);cases c with
   |nil=>
    obtain⟨rfl,rfl,rfl⟩:=aS.lQ.1 E;obtain⟨_,_,av⟩:=aS.lQ.1 (ci [] j loc (u.take j.size) (by simpa[fj,ng] using n) (aS.lQ.2 ⟨rfl,rfl,rfl⟩));exact aS.lQ.2 ⟨rfl,rfl,by rw[av,ku]⟩
   |cons I c=>
    cases I<;>simp only[fj] at n<;>first|(cases n;done)|skip
    ·show aS s j loc ((q++u.drop j.size).take j.size) c T S P;rw[al];exact ci c T S P n E
    show aS s cv (loc.map λc=>(c.1,c.2+j.size)) ((q++u.drop j.size).drop j.size) c T S P;rw[gf];exact aS.et M nn E
  case pr.snd j cv=>
   obtain⟨f4,f2,rfl,l,M⟩:=el;have lo:=l.len;have am:=M.len;simp only[dS,ka] at lo am;have f7:nR e (loc.map λc=>(c.1,c.2+j.size)) (u.drop j.size) cv.size:=by
    intro d g a;cases loc with
    |none=>simp at a
    |some c=>
     obtain⟨of,J⟩:=c;simp only[fd,bF,fe] at a;obtain⟨rfl,rfl⟩:=a;exact⟨(cs _ _ rfl).1.drop,λx aw K=>(cs _ _ rfl).2 x U (by show x<J+(j.size+cv.size);omega)⟩
   simp only[hC] at d9;obtain⟨lb,f3,f9⟩:=d9;have fs:∀d g,(loc.map λc=>(c.1,c.2+j.size))=some (d,g)->∃J,loc=some (d,J)/\g=J+j.size:=by
    intro d g a;cases loc with
    |none=>simp at a
    |some c=>
     obtain⟨of,J⟩:=c;simp only[fd,bF,fe] at a;exact⟨J,by rw[a.1],a.2.symm⟩
   obtain⟨y,V,a0,X,d3,d4,d5,G,W,d6,fp⟩:=hs (loc:=loc.map λc=>(c.1,c.2+j.size)) M f7 f3 (λd g a=>by obtain⟨J,a,_⟩:=fs d g a;exact⟨λc=>(R d J a).1 (by simp[c]),(R d J a).2⟩) (λb k=>bs b (by simp[k])) H;refine⟨y,V,a0,X++f4,d3,d4,d5,?_,?_,?_,?_⟩
   rotate_left 3
   ·intro c ap z am dl kd a hr d8 ce A b k;cases c with
    |nil=>cases a
    |cons I c=>
     cases I<;>first|(cases a;done)|skip
     ·obtain⟨a3,C,N⟩:=aP.sub (p:=c) l d8 ce;have f6:b∈f4:=N b (by rw[<-aP.uniq hr A C];exact k);refine⟨by simp[f6],λm h fT av=>?_⟩;subst av;rcases W b h fT with⟨o,al,_⟩|al
      ·obtain⟨J,gf,_⟩:=fs _ _ al;exact(R b J gf).1 (by simp[f6])
      exact f9 b f6 b (G.mem_iff.2 (by simp[al])) rfl
     obtain⟨aw,K⟩:=fp c ap z am dl kd a hr d8 ce A b k;exact⟨by simp[aw],K⟩
   ·rw[rA] at G|-;intro b;have:=G b;simp only[rv] at this|-;omega
   ·intro m h a;rcases W m h a with⟨o,aw,K,ib⟩|aw
    ·obtain⟨J,ic,rfl⟩:=fs _ _ aw;exact .inl ⟨J,ic,U,by show h+F.size<=J+(j.size+cv.size);omega⟩
    exact .inr (by simp[aw])
   intro s L D z Y d1 a4 v A ek d7 B;simp only[dA] at B;obtain⟨ge,B,rfl⟩:=B;obtain⟨q,Q,C,_,hv,N,ad,em,ci⟩:=d6 s L D z Y ge a4 (by
     rintro b (a|a|⟨g,a⟩)
     ·exact v b (.inl a)
     ·exact v b (.inr (.inl (by simp[a])))
     obtain⟨J,ic,rfl⟩:=fs _ _ a;exact v b (.inr (.inr ⟨J,ic⟩))) A (λco _=>ek co ab) d7 B
   have bl:∀m h,y=some (m,h)->(∃g,loc=some (m,g)/\g+j.size<=h/\h+F.size<=g+j.size+cv.size)\/m∈f2:=λm h a=>by
    rcases W m h a with⟨o,aw,K,ib⟩|c
    ·obtain⟨J,ic,rfl⟩:=fs _ _ aw;exact .inl ⟨J,ic,K,ib⟩
    exact .inr (G.mem_iff.2 (by simp[c]))
   have gs:∀r b,f r b->L r b/\bN e s b:=λr b k=>⟨a4 r b k,(v b (.inl ⟨r,k⟩)).et (λo a=>by
    rcases bl b o a with⟨g,c,_⟩|c
    ·exact(R b g c).2 r k
    exact bs b (by simp[c]) r k)⟩
   have ne:∀b∈f4,bN e s b:=λb k=>(v b (.inr (.inl (by simp[k])))).et (λh a=>by
    rcases bl b h a with⟨g,c,_⟩|c
    ·exact(R b g c).1 (by simp[k])
    exact f9 b k b c rfl)
   have nx:=C.len;refine⟨u.take j.size++q,f4++Q,⟨f4,Q,rfl,?_,?_⟩,ab,?_,?_,?_,(by
    show aS s cv (loc.map λc=>(c.1,c.2+j.size)) ((u.take j.size++q).drop j.size) Z F y D;rw[oN (by simp;omega),oO (by simp;omega),fi];exact em),?_⟩
   ·rw[rB (by simp;omega),List.take_take,Nat.min_self];exact l.mono gs ne
   ·rw[oN (by simp;omega),oO (by simp;omega),fi];exact C
   ·intro aw K;rw[hv (by rw[aw];rfl) K,ku]
   ·intro d g a;have ft:=v d (.inr (.inr ⟨g,a⟩));have on:dL s d g (u.take j.size):=by
     intro x ii f1;have i1:x<(u.take j.size).length:=(ec.1 f1).1;simp only[dS] at i1;rw[ft.1]
     ·exact((cs d g a).1.take) x ii f1
     intro h f5;rcases bl d h f5 with⟨n5,aw,K,ib⟩|c
     ·rw[a] at aw;simp only[bF,fe,true_and] at aw;left;omega
     exact absurd (by simp[c]) (R d g a).1
    refine on.append ?_;have:=N d (g+j.size) (by rw[a];rfl);rwa[dS,fr U]
   ·rw[rA] at ad|-;intro b;have:=ad b;simp only[rv] at this|-;omega
   intro c T S P n E;have al:(u.take j.size++q).take j.size=u.take j.size:=(by rw[rB (by simp;omega),List.take_take,Nat.min_self]);have gf:(u.take j.size++q).drop j.size=q:=(by rw[oN (by simp;omega),oO (by simp;omega),fi]);cases c with
   |nil=>
    obtain⟨rfl,rfl,rfl⟩:=aS.lQ.1 E;obtain⟨_,_,av⟩:=aS.lQ.1 (ci [] cv (loc.map λc=>(c.1,c.2+j.size)) (u.drop j.size) (by simpa[fj,ng] using n) (aS.lQ.2 ⟨rfl,rfl,rfl⟩));exact aS.lQ.2 ⟨rfl,rfl,by rw[av,ku]⟩
   |cons I c=>
    cases I<;>simp only[fj] at n<;>first|(cases n;done)|skip
    ·show aS s j loc ((u.take j.size++q).take j.size) c T S P;rw[al];exact aS.et l ne E
    show aS s cv (loc.map λc=>(c.1,c.2+j.size)) ((u.take j.size++q).drop j.size) c T S P;rw[gf];exact ci c T S P n E
def Bs (i:List aW) {loc:Loc} {u:d.den} {τ':ai} {y:τ'.den} (J:aP f e d g u m) (K:nR e loc g d.size) (L:m.Nodup) (M:∀a b,loc=some (a,b)->a∉m/\∀h,¬f h a) (N:∀a∈m,∀h,¬f h a) (O:c4 d u i τ' y):∃c j p o,aS e d loc g i τ' c j/\aP f e τ' j y p/\nR e c j τ'.size/\m.Perm (p++o)/\(∀r s,c=some (r,s)->(∃b,loc=some (r,b)/\b<=s/\s+τ'.size<=b+d.size)\/r∈o)/\(∀(
   k:World) (q:c5->Nat->Prop) (l:ac1) (B:τ'.den) (w:ac7) (A:d.den),
   (∀h a,f h a->q h a)->(∀a,(∃h,f h a)\/a∈o\/(∃b,loc=some (a,b))->pX e k c τ'.size a)->
   aP q k τ' l B w->(c=none->i≠[]->l=j)->(∀a b,c=some (a,b)->dL k a b l)->dA d u i τ' B A->
   ∃n x,aP q k d n A x/\(i=[]->n=l)/\(loc=none->(c≠none\/l=j)->n=g)/\(∀a b,loc=some (a,b)->dL k a b n)/\x.Perm (w++o)/\aS k d loc n i τ' c l/\∀(t:List aW) (C:ai) (z:Loc) (v:ac1),fj i t=true->aS e d loc g t C z v->aS k d loc n t C z v):=by
 obtain⟨c,j,p,o,D,E,F,G,H,I,_⟩:=xj i J K L M N O;exact⟨c,j,p,o,D,E,F,G,H,I⟩
def ba (a c:Nat->Prop):c5->Nat->Prop
 |.bB=>a
 |.dd=>λb=>a b\/c b
def lM (a:ba D k P c):D c\/k c:=by cases P;exact .inl a;exact a
inductive ao where
 |dead
 |val (τ:ai) (x:τ.den)
 |ref (id:Nat) (p:List aW)
 |addr (id:Nat) (p:List aW)
 |view (id:Nat) (p:List aW) (lo hi:Nat)
 |app (id:Nat) (p:List aW) (τ:ai) (yD:List τ.den) (own:ac7)
 |bQ (v:Value)
 |dv (l:List ao)
 |agg (l:List ao)
 |df (f:Nat) (l:List ao)
 |iV (id:Nat) (p:List aW) (k:Int)
variable{L:List (Nat×ao)}{R:ao}
abbrev aH:=(a:ai)×a.den
variable{y:List (Nat×aH)}{F:aH}
structure aO where
 g:List (Nat×ao)
 h:List (Nat×aH)
variable{A:aO}
def au {a:Type}:List (Nat×a)->Nat->Option a
 |[],_=>none
 |(k,v)::r,n=>bif Nat.beq k n then some v else au r n
def bU (b:Nat) (e:z) (d:List (Nat×z)) (a:Nat):au ((b,e)::d) a=if b=a then some e else au d a:=by
 show(bif Nat.beq b a then some e else au d a)=_;by_cases c:b=a
 ·rw[aj c,c];simp
 rw[ag c];have:Nat.beq b a=false:=by
  cases f:Nat.beq b a
  ·rfl
  exact absurd (ep f) c
 rw[this];rfl
def gt (a:List (Nat×ao)) (b:Nat):ao:=match au a b with|some c=>c|none=>.dead
structure dn where
 I0:Nat->Prop
 B:Nat->Prop
 F0:Nat->Prop
 w0:World
 n:Nat
 pin:ac7
 vs:Nat->Value
variable{H:dn}
def dn.ok (a:dn) (d:Nat):Prop:=d<a.n/\d∉a.pin
inductive bC (M:c5->Nat->Prop) (w:World) (h:List (Nat×aH)) (rt:Nat->ac1) (fp:Nat->ac7):ao->Value->Prop
 |dead (v:Value):bC M w h rt fp .dead v
 |bQ (v:Value):bC M w h rt fp (.bQ v) v
 |val {τ:ai} {x:τ.den} {cs:ac1} (r:aP M w τ cs x []):bC M w h rt fp (.val τ x) (bG τ cs)
 |ref {id:Nat} {p:List aW} {t:aH} {τ':ai} {loc:Loc} {cs:ac1} (sw:au h id=some t) (BF:aS w t.1 none (rt id) p τ' loc cs):bC M w h rt fp (.ref id p) (bG τ' cs)
 |addr {id:Nat} {p:List aW} {t:aH} {τ':ai} {b o:Nat} {cs:ac1} (sw:au h id=some t) (BF:aS w t.1 none (rt id) p τ' (some (b,o)) cs):bC M w h rt fp (.addr id p) (.pointer (some ⟨b,o,none⟩))
 |view {id:Nat} {p:List aW} {lo hi:Nat} {t:aH} {τ':ai} {loc:Loc} {b o len cap:Nat} (sw:au h id=some t) (BF:aS w t.1 none (rt id) p (.osl τ') loc [.slice (some ⟨b,o,none⟩) len cap]) (RF:lo<=hi) (RG:hi<=len) (ZB:len<=cap):bC M w h rt fp (.view id p lo hi) (.slice (some ⟨b,if cap=lo then o else o+lo*τ'.size,none⟩) (hi-lo) (cap-lo))
 |kn (id:Nat) (p:List aW):bC M w h rt fp (.view id p 0 0) (.slice none 0 0)
 |app {id:Nat} {p:List aW} {τ:ai} {yD:List τ.den} {own:ac7} {t:aH} {loc:Loc} {wa:ac1} {xs:List τ.den} {f1 f2:ac7} {v:Value} (sw:au h id=some t) (ZG:τ.il=true) (BF:aS w t.1 none (rt id) p (.osl τ) loc wa) (ZE:c4 t.1 t.2 p (.osl τ) xs) (RF:aP M w (.osl τ) wa xs f1) (ZD:∀b∈f1,b∈fp id) (RG:aP M w (.osl τ) [v] (xs++yD) f2) (ZI:∀i∈own,i≠id/\∃u,au h i=some u) (ZJ:∀b∈f2,b∈f1\/∃i∈own,b∈fp i) (ZH:f2.Nodup):bC M w h rt fp (.app id p τ yD own) v
 |dv {l:List ao} {vs:acZ} (JD:l.length=vs.size) (BE:∀(i:Nat) (a:ao) (v:Value),l[i]?=some a->vs[i]?=some v->bC M w h rt fp a v):bC M w h rt fp (.dv l) (.tuple vs)
 |agg {l:List ao} {vs:ac1} (JD:l.length=vs.length) (BE:∀(i:Nat) (a:ao) (v:Value),l[i]?=some a->vs[i]?=some v->bC M w h rt fp a v):bC M w h rt fp (.agg l) (.agg (vs.map λv=>v.cells.toList).flatten.toArray)
 |iV {id:Nat} {p:List aW} {k:Int} {t:aH} {τ':ai} {loc:Loc} {b c i:Nat} {di:Array MapEntry} {e:MapEntry} (sw:au h id=some t) (BF:aS w t.1 none (rt id) p (.mp τ') loc [.map (some b)]) (ZC:b∈fp id) (JE:hk w b=some (di,c)) (hi:di[i]?=some e) (ZF:e.key=.int .i64 k):bC M w h rt fp (.iV id p k) (.int .i64 (e.born:Int))
 |df {f:Nat} {l:List ao} {vs:acZ} (JD:l.length=vs.size) (BE:∀(i:Nat) (a:ao) (v:Value),l[i]?=some a->vs[i]?=some v->bC M w h rt fp a v):bC M w h rt fp (.df f l) (.func (.func f) #[] vs)
structure br (C:dn) (st:aO) (GF:acZ) (w:World) (I:Nat->Prop) (rt:Nat->ac1) (fp:Nat->ac7):Prop where
 n:GF.size=C.n
 i0:∀b,C.I0 b->I b
 i1:∀b,I b->C.I0 b\/C.w0.heap.size<=b\/C.F0 b
 ib:∀b,I b\/C.B b->b<w.heap.size
 tree:∀id t,au st.h id=some t->aP (ba I C.B) w t.1 (rt id) t.2 (fp id)/\(fp id).Nodup/\∀b∈fp id,¬I b/\¬C.B b/\b<w.heap.size/\(C.w0.heap.size<=b\/C.F0 b)
 dis:∀i j t u,au st.h i=some t->au st.h j=some u->i≠j->∀b∈fp i,b∉fp j
 tmp:∀k,bC (ba I C.B) w st.h rt fp (gt st.g k) (GF.getD k undef)
 frame:∀b,b<C.w0.heap.size->¬C.F0 b->w.heap[b]?=C.w0.heap[b]?
 evo:∀b,b<C.w0.heap.size->i7 C.w0 w b
 size:C.w0.heap.size<=w.heap.size
 os:w.os=C.w0.os
 tape:w.tape=C.w0.tape
 output:w.output=C.w0.output
 pin:∀k∈C.pin,GF.getD k undef=C.vs k
def e3 (a:dn) (e:aO) (f:acZ) (g:World):Prop:=∃b d c,br a e f g b d c
structure gq (w w':World):Prop where
 os:w'.os=w.os
 tape:w'.tape=w.tape
 output:w'.output=w.output
 size:w.heap.size<=w'.heap.size
 heap:∀b,b<w.heap.size->w'.heap[b]?=w.heap[b]?
def gq.refl (a:World):gq a a:=⟨rfl,rfl,rfl,a6 _,λ_ _=>rfl⟩
def gq.trans {c d e:World} (a:gq c d) (b:gq d e):gq c e:=
 ⟨b.os.trans a.os,b.tape.trans a.tape,b.output.trans a.output,db a.size b.size,λg f=>(b.heap g (gM f a.size)).trans (a.heap g f)⟩
def gq.drew {b c:World} (a:gq b c):gq b c.drew:=⟨a.os,a.tape,a.output,a.size,a.heap⟩
def gq.alloc (a:World) (b:Obj):gq a (a.alloc b):=⟨rfl,rfl,rfl,ab,λc d=>by
 show(a.heap.push b)[c]?=_;rw[vC,ag U]⟩
def bC.mono {w E:c5->Nat->Prop} {t v:World} {x G:List (Nat×aH)} {D K:Nat->ac1} {u F:Nat->ac7} (y:∀I b,w I b->E I b/\bN t v b) (f:∀id o,au x id=some o->aP w t o.1 (D id) o.2 (u id)/\∀b∈u id,bN t v b) {l:ao} {e:Value} (M:bC w t x D u l e) (n:∀id o,au x id=some o->au G id=some o/\K id=D id/\F id=u id):bC E v G K F l e:=by
 induction M with
 |dead e=>exact .dead e
 |bQ e=>exact .bQ e
 |val V=>exact .val (V.mono y ab)
 |ref a i=>
  obtain⟨j,k,_⟩:=n _ _ a;exact .ref j (by rw[k];exact i.et (f _ _ a).1 (f _ _ a).2)
 |addr a i=>
  obtain⟨j,k,_⟩:=n _ _ a;exact .addr j (by rw[k];exact i.et (f _ _ a).1 (f _ _ a).2)
 |kn id J=>exact .kn id J
 |view a i g h L=>
  obtain⟨j,k,_⟩:=n _ _ a;exact .view j (by rw[k];exact i.et (f _ _ a).1 (f _ _ a).2) g h L
 |@app id J τ am Z o Y W ad X f2 e a R i O g z h A H S=>
  obtain⟨j,k,C⟩:=n _ _ a;obtain⟨T,B⟩:=f _ _ a;have N:∀b∈f2,bN t v b:=λb c=>by
   rcases H b c with c|⟨d,m,c⟩
   ·exact B b (z b c)
   obtain⟨_,p,r⟩:=A d m;exact(f d p r).2 b c
  refine .app j R (by rw[k];exact i.et T B) O (g.mono y (λb c=>B b (z b c))) (by rw[C];exact z) (h.mono y N) ?_ ?_ S
  ·intro d m;obtain⟨U,p,r⟩:=A d m;exact⟨U,p,(n d p r).1⟩
  intro b c;rcases H b c with c|⟨d,m,c⟩
  ·exact .inl c
  obtain⟨_,p,r⟩:=A d m;exact .inr ⟨d,m,by rw[(n d p r).2.2];exact c⟩
 |iV a i c Q m P=>
  obtain⟨j,k,C⟩:=n _ _ a;exact .iV j (by rw[k];exact i.et (f _ _ a).1 (f _ _ a).2) (by rw[C];exact c) (by rw[((f _ _ a).2 _ c).2];exact Q) m P
 |dv q _ s=>exact .dv q (λd l e g h=>s d l e g h)
 |agg q _ s=>exact .agg q (λd l e g h=>s d l e g h)
 |df q _ s=>exact .df q (λd l e g h=>s d l e g h)
def aR (c:List (Nat×ao)):Operand->ao
 |.tmp g=>gt c g
 |.const (.int d e)=>.val (.int d) e
 |.const (.bool a)=>.val .bool a
 |.const (.string f)=>.val .str f
 |.const h=>.bQ h
 |.func b=>.df b []
 |.global _=>.dead
def bC.int {c:c5->Nat->Prop} {g:World} {e:List (Nat×aH)} {f:Nat->ac1} {d:Nat->ac7} (a:IntKind) (b:Int):bC c g e f d (.val (.int a) b) (.int a b):=
 .val (τ:=.int a) (cs:=[.int a b]) ⟨rfl,rfl⟩
def bC.bool {b:c5->Nat->Prop} {f:World} {d:List (Nat×aH)} {e:Nat->ac1} {c:Nat->ac7} (a:Bool):bC b f d e c (.val .bool a) (.bool a):=
 .val (τ:=.bool) (cs:=[.bool a]) ⟨rfl,rfl⟩
def bC.str {b:c5->Nat->Prop} {f:World} {d:List (Nat×aH)} {e:Nat->ac1} {c:Nat->ac7} (a:ByteArray):bC b f d e c (.val .str a) (.string a):=
 .val (τ:=.str) (cs:=[.string a]) ⟨rfl,rfl⟩
def br.aR {e:dn} {c:aO} {a:Act} {l:World} {f:Nat->Prop} {j:Nat->ac1} {i:Nat->ac7} (m:br e c a.tmps l f j i) (d:Operand):bC (ba f e.B) l c.h j i (aR c.g d) (a.eval d):=by
 cases d with
 |tmp o=>exact m.tmp o
 |const p=>
  cases p<;>simp only[ia.aR,Act.eval]
  case int k n=>exact .int k n
  case bool b=>exact .bool b
  case string s=>exact .str s
  all_goals exact .bQ _
 |func q=>exact .df (vs:=#[]) ab ab
 |global r=>exact .dead _
def iB {d:Type}:∀(c b:List (Nat×d)) (a:Nat),au (c++b) a=(au c a).or (au b a)
 |[],b,a=>by simp[au]
 |(k,v)::c,b,a=>by rw[jc,bU,bU,iB c b a];split<;>simp
def hj (b:Nat) (c:ao) (d:List (Nat×ao)) (a:Nat):gt ((b,c)::d) a=if b=a then c else gt d a:=by unfold gt;rw[bU];by_cases e:b=a<;>simp[e]
def br.put (a:br H A x e k o p) (f:H.ok c) {av:ao} {v:Value} (l:bC (ba k H.B) e A.h o p av v):br H ⟨(c,av)::A.g,A.h⟩ (x.setIfInBounds c v) e k o p where
 n:=by simpa using a.n
 i0:=a.i0
 i1:=a.i1
 ib:=a.ib
 tree:=a.tree
 dis:=a.dis
 tmp:=λb=>by
  show bC _ _ _ _ _ (gt ((c,av)::A.g) b) _;unfold gt;rw[bU];have j:c<x.size:=(by rw[a.n];exact f.1);by_cases d:c=b
  ·subst d;rw[aj rfl];have:(x.setIfInBounds c v).getD c undef=v:=(by simp[Array.getD,j]);rw[this];exact l
  rw[ag d];have:(x.setIfInBounds c v).getD b undef=x.getD b undef:=(by simp only[yF,CY d]);rw[this];exact a.tmp b
 frame:=a.frame
 evo:=a.evo
 size:=a.size
 os:=a.os
 tape:=a.tape
 output:=a.output
 pin:=λb d=>by have:c≠b:=λi=>f.2 (i▸d);rw[<-a.pin b d];simp only[yF,CY this]
structure tF (C:dn) (st:aO) (w w':World) (I':Nat->Prop) (new:List (Nat×aH)) (rtn:Nat->ac1) (fpn:Nat->ac7):Prop where
 tree:∀id t,au new id=some t->au st.h id=none/\aP (ba I' C.B) w' t.1 (rtn id) t.2 (fpn id)/\(fpn id).Nodup/\∀b∈fpn id,w.heap.size<=b/\b<w'.heap.size/\¬I' b
 dis:∀i j t u,au new i=some t->au new j=some u->i≠j->∀b∈fpn i,b∉fpn j
def tF.nil:tF H A e n k [] o p:=
 ⟨(λ_ _ a=>by cases a),(λ_ _ _ _ a=>by cases a)⟩
def tF.one {C:dn} {st:aO} {e w':World} {I':Nat->Prop} {id:Nat} {t:aH} {cs:ac1} {f:ac7} (m:au st.h id=none) (n:aP (ba I' C.B) w' t.1 cs t.2 f) (k:f.Nodup) (j:∀b∈f,e.heap.size<=b/\b<w'.heap.size/\¬I' b):tF C st e w' I' [(id,t)] (λ_=>cs) (λ_=>f) where
 tree:=λo p a=>by
  rw[bU] at a;split at a
  ·rename_i g;subst g;obtain rfl:=ee a;exact⟨m,n,k,j⟩
  cases a
 dis:=λo q r p c d l=>by
  rw[bU] at c d;split at c
  ·split at d
   ·rename_i al i;exact absurd (al.symm.trans i) l
   cases d
  cases c
def dz (d:List (Nat×aH)) {a:Type} (b c:Nat->a):Nat->a:=λid=>match au d id with|some _=>b id|none=>c id
def br.ext {r:World} {rtn:Nat->ac1} {fpn:Nat->ac7} (d:br H A x e D o p) (i:gq e r) (C:∀a,D a->k a) (E:∀a,k a->D a\/(e.heap.size<=a/\a<r.heap.size)) {new:List (Nat×aH)} (t:tF H A e r k new rtn fpn):br H ⟨A.g,new++A.h⟩ x r k (dz new rtn o) (dz new fpn p):=by
 have M:∀y a,ba D H.B y a->ba k H.B y a/\bN e r a:=λy a b=>by
  refine⟨?_,.of_heap (i.heap a (d.ib a (lM b)))⟩;cases y
  ·exact C a b
  exact b.imp (C a) id
 have U:∀id c,au A.h id=some c->au (new++A.h) id=some c/\dz new rtn o id=o id/\dz new fpn p id=p id:=λid c f=>by
  have:au new id=none:=by
   cases l:au new id with
   |none=>rfl
   |some m=>have:=(t.tree id m l).1;rw[f] at this;cases this
  refine⟨by rw[iB,this,f];rfl,by simp[dz,this],by simp[dz,this]⟩
 have F:∀id c,au (new++A.h) id=some c->(au new id=some c/\dz new rtn o id=rtn id/\dz new fpn p id=fpn id)\/(au A.h id=some c/\dz new rtn o id=o id/\dz new fpn p id=p id):=λid c f=>by
  rw[iB] at f;cases l:au new id with
  |none=>rw[l] at f;exact .inr ⟨by simpa using f,by simp[dz,l],by simp[dz,l]⟩
  |some m=>rw[l] at f;exact .inl ⟨by simpa using f,by simp[dz,l],by simp[dz,l]⟩
 have N:∀id c,au A.h id=some c->∀a∈p id,bN e r a:=λid c f a b=>.of_heap (i.heap a ((d.tree id c f).2.2 a b).2.2.1);refine{n:=d.n,i0:=λa b=>C a (d.i0 a b),i1:=?_,ib:=?_,tree:=?_,dis:=?_,tmp:=?_,frame:=?_,evo:=λa b=>(d.evo a b).trans (.of_heap (i.heap a (gM b d.size))),size:=db d.size i.size,os:=i.os.trans d.os,tape:=i.tape.trans d.tape,output:=i.output.trans d.output,pin:=d.pin}
 ·intro a b;rcases E a b with b|⟨b,_⟩
  ·exact d.i1 a b
  exact .inr (.inl (db d.size b))
 ·intro a b;rcases b with b|b
  ·rcases E a b with b|⟨_,b⟩
   ·exact gM (d.ib a (.inl b)) i.size
   exact b
  exact gM (d.ib a (.inr b)) i.size
 ·intro id c f;rcases F id c f with⟨j,z,q⟩|⟨j,z,q⟩
  ·obtain⟨_,aw,G,I⟩:=t.tree id c j;rw[z,q];refine⟨aw,G,λa b=>?_⟩;obtain⟨J,K,L⟩:=I a b;exact⟨L,λQ=>by have:=d.ib a (.inr Q);omega,K,.inl (db d.size J)⟩
  obtain⟨aw,G,I⟩:=d.tree id c j;rw[z,q];refine⟨aw.mono M (N id c j),G,λa b=>?_⟩;obtain⟨J,K,L,aK⟩:=I a b;exact⟨λs=>(E a s).elim J (λW=>by omega),K,gM L i.size,aK⟩
 ·intro u v c m S T O a b;rcases F u c S with⟨j,_,q⟩|⟨j,_,q⟩<;>rcases F v m T with⟨w,_,P⟩|⟨w,_,P⟩<;>rw[q] at b<;>rw[P]
  ·exact t.dis u v c m j w O a b
  ·intro s;have:=((t.tree u c j).2.2.2 a b).1;have:=((d.tree v m w).2.2 a s).2.2.1;omega
  ·intro s;have:=((t.tree v m w).2.2.2 a s).1;have:=((d.tree u c j).2.2 a b).2.2.1;omega
  exact d.dis u v c m j w O a b
 ·intro V;exact(d.tmp V).mono M (λid c f=>⟨(d.tree id c f).1,N id c f⟩) U
 intro a b R;rw[i.heap a (gM b d.size)];exact d.frame a b R
def br.RD (a:br H A x e k o p) (b:gq e n):br H A x n k o p:=by have:=a.ext (rtn:=o) (fpn:=p) b (λ_ a=>a) (λ_ a=>.inl a) (new:=[]) .nil;exact this
def m0:List (Nat×ao)->aO->Prop
 |[],_=>True
 |(k,a)::r,st=>gt st.g k=a/\m0 r st
def m1:List (Nat×aH)->aO->Prop
 |[],_=>True
 |(k,t)::r,st=>au st.h k=some t/\m1 r st
def m0.get (b:m0 L A):∀a,gt L a=.dead\/gt L a=gt A.g a:=by
 induction L with
 |nil=>exactλa=>.inl rfl
 |cons e L d=>
  obtain⟨h,f⟩:=e;intro a;rw[hj];split
  ·rename_i c;subst c;exact .inr b.1.symm
  exact d b.2 a
def m1.get (c:m1 y A):∀a b,au y a=some b->au A.h a=some b:=by
 induction y with
 |nil=>intro a b c;cases c
 |cons g y f=>
  obtain⟨j,i⟩:=g;intro a b d;rw[bU] at d;split at d
  ·rename_i e;subst e;rw[<-d];exact c.1
  exact f c.2 a b d
mutual
def ao.ids:ao->ac7
 |.dead|.val _ _|.bQ _=>[]
 |.ref id _|.addr id _|.view id _ _ _|.iV id _ _=>[id]
 |.app id _ _ _ b=>id::b
 |.dv a|.agg a|.df _ a=>ao.mu a
def ao.mu:List ao->ac7
 |[]=>[]
 |a::b=>a.ids++ao.mu b
end
def ao.xK {l:List ao} {i:Nat} (a:l[i]?=some R) {id:Nat} (b:id∈R.ids):id∈ao.mu l:=by
 induction l generalizing i with
 |nil=>simp at a
 |cons e d c=>
  simp only[ao.mu,dX];cases i with
  |zero=>simp at a;subst a;exact .inl b
  |succ i=>simp at a;exact .inr (c a)
def bC.qX {E:c5->Nat->Prop} {G:List (Nat×aH)} {L:Nat->ac1} {F:Nat->ac7} (z:∀J a,f J a->E J a/\bN e n a) (N:bC f e y o p R I) (h:∀id∈R.ids,∀x,au y id=some x->au G id=some x/\L id=o id/\F id=p id/\aP f e x.1 (o id) x.2 (p id)/\∀a∈p id,bN e n a):bC E n G L F R I:=by
 induction N with
 |dead I=>exact .dead I
 |bQ I=>exact .bQ I
 |val X=>exact .val (X.mono z ab)
 |ref k j=>
  obtain⟨l,m,_,r,q⟩:=h _ (by simp[ao.ids]) _ k;exact .ref l (by rw[m];exact j.et r q)
 |addr k j=>
  obtain⟨l,m,_,r,q⟩:=h _ (by simp[ao.ids]) _ k;exact .addr l (by rw[m];exact j.et r q)
 |kn id K=>exact .kn id K
 |view k j d i M=>
  obtain⟨l,m,_,r,q⟩:=h _ (by simp[ao.ids]) _ k;exact .view l (by rw[m];exact j.et r q) d i M
 |@app id K av ap am x ad Y an Z f2 I k T j P d A i B H U=>
  obtain⟨l,m,D,V,C⟩:=h _ (by simp[ao.ids]) _ k;have O:∀a∈f2,bN e n a:=λa b=>by
   rcases H a b with b|⟨c,g,b⟩
   ·exact C a (A a b)
   obtain⟨_,s,v⟩:=B c g;exact(h c (by simp[ao.ids,g]) s v).2.2.2.2 a b
  refine .app l T (by rw[m];exact j.et V C) P (d.mono z (λa b=>C a (A a b))) (by rw[D];exact A) (i.mono z O) ?_ ?_ U
  ·intro c g;obtain⟨W,s,v⟩:=B c g;exact⟨W,s,(h c (by simp[ao.ids,g]) s v).1⟩
  intro a b;rcases H a b with b|⟨c,g,b⟩
  ·exact .inl b
  obtain⟨_,s,v⟩:=B c g;exact .inr ⟨c,g,by rw[(h c (by simp[ao.ids,g]) s v).2.2.1];exact b⟩
 |iV k j b S g Q=>
  obtain⟨l,m,D,r,q⟩:=h _ (by simp[ao.ids]) _ k;exact .iV l (by rw[m];exact j.et r q) (by rw[D];exact b) (by rw[(q _ b).2];exact S) g Q
 |dv u _ w=>exact .dv u (λc R I d i=>w c R I d i (λid t=>h id (ao.xK d t)))
 |agg u _ w=>exact .agg u (λc R I d i=>w c R I d i (λid t=>h id (ao.xK d t)))
 |df u _ w=>exact .df u (λc R I d i=>w c R I d i (λid t=>h id (ao.xK d t)))
def br.we {q:aO} (a:br H q x e k o p) (v:m0 A.g q) (d:m1 A.h q) (w:∀c,∀id∈(gt A.g c).ids,(au A.h id).isSome=true):br H A x e k o p where
 n:=a.n
 i0:=a.i0
 i1:=a.i1
 ib:=a.ib
 tree:=λid b f=>a.tree id b (d.get id b f)
 dis:=λs t b i m y=>a.dis s t b i (d.get s b m) (d.get t i y)
 tmp:=λc=>by
  rcases v.get c with l|l
  ·rw[l];exact .dead _
  have:=w c;rw[l] at this|-;refine(a.tmp c).qX (λz j u=>⟨u,bN.refl e j⟩) (λid m b f=>?_);obtain⟨i,r⟩:=Db.1 (this id m);have:=d.get id i r;rw[f] at this;obtain rfl:=ee this;exact⟨r,rfl,rfl,(a.tree id b f).1,λj _=>bN.refl e j⟩
 frame:=a.frame
 evo:=a.evo
 size:=a.size
 os:=a.os
 tape:=a.tape
 output:=a.output
 pin:=a.pin
def kE (a:List (Nat×ao)) (b:List (Nat×aH)):Bool:=a.all λc=>c.2.ids.all λid=>(au b id).isSome
def kE.get (d:kE L y=true) (c:Nat):∀id∈(gt L c).ids,(au y id).isSome=true:=by
 intro id b;unfold gt at b;cases a:au L c with
 |none=>rw[a] at b;simp[ao.ids] at b
 |some e=>
  rw[a] at b;have g:(c,e)∈L:=by
   clear d b
   induction L with
   |nil=>cases a
   |cons i l h=>
    obtain⟨k,j⟩:=i;rw[bU] at a;split at a
    ·rename_i f;subst f;obtain rfl:=ee a;simp
    exact e1 _ (h a)
  simp only[kE,eJ] at d;exact d (c,e) g id b
section
mutual
def dC (P:Program):ai->TypeId->Prop
 |.int f,T=>∃a,P.info? T=some a/\a.size=1/\a.bytes<=24/\a.zero=some (.int f 0)/\P.underlying T=some (.int f)
 |.bool,T=>∃a,P.info? T=some a/\a.size=1/\a.bytes<=24/\a.zero=some (.bool false)/\P.underlying T=some .bool
 |.str,T=>∃a,P.info? T=some a/\a.size=1/\a.bytes<=24/\a.zero=some (.string ByteArray.empty)/\P.underlying T=some .string
 |.a5 _ b,T=>∃a E,P.info? T=some a/\a.size=1/\a.bytes<=24/\a.zero=some (.slice none 0 0)/\P.underlying T=some (.slice E)/\dC P b E
 |.osl b,T=>∃a E,P.info? T=some a/\a.size=1/\a.bytes<=24/\a.zero=some (.slice none 0 0)/\P.underlying T=some (.slice E)/\dC P b E
 |.ptr _ b,T=>∃a E,P.info? T=some a/\a.size=1/\a.bytes<=24/\a.zero=some (.pointer none)/\P.underlying T=some (.pointer E)/\dC P b E
 |.optr b,T=>∃a E,P.info? T=some a/\a.size=1/\a.bytes<=24/\a.zero=some (.pointer none)/\P.underlying T=some (.pointer E)/\dC P b E
 |.st b,T=>0<b.size/\∃a e d,P.info? T=some a/\a.size=b.size/\a.bytes<=24*b.size/\a.zero=some (.agg d)/\P.underlying T=some (.struct e)/\ha P b e.toList 0 d.toList/\d.size=b.size
 |.mp b,T=>∃a c E,P.info? T=some a/\a.size=1/\a.bytes<=24/\a.zero=some (.map none)/\P.underlying T=some (.map c E)/\P.underlying c=some (.int .i64)/\dC P b E
 |.dB _ b,T=>∃a c E,P.info? T=some a/\a.size=1/\a.bytes<=24/\a.zero=some (.map none)/\P.underlying T=some (.map c E)/\P.underlying c=some (.int .i64)/\dC P b E
 |_,_=>False
def ha (P:Program):ai->List Field->Nat->ac1->Prop
 |.pr a g,c::h,e,b=>c.offset=e/\dC P a c.type/\0<a.size/\(∃d f,P.info? c.type=some d/\d.zero=some f/\b.take a.size=f.cells.toList)/\ha P g h (e+a.size) (b.drop a.size)
 |.nil,[],_,b=>b=[]
 |_,_,_,_=>False
end
def oj:ai->Bool
 |.st _=>true
 |_=>false
structure OJ (P:Program) (τ:ai) (T:TypeId) (i:TypeInfo):Prop where
 info:P.info? T=some i
 size:i.size=τ.size
 bytes:i.bytes<=24*τ.size
 pos:0<τ.size
def dC.info {P:Program}:∀{τ:ai} {T:TypeId},dC P τ T->∃a g,OJ P τ T a/\P.underlying T=some g/\(match g with|.struct _|.array _ _=>true|_=>false)=oj τ
 |.int _,_,⟨a,b,c,d,_,e⟩=>⟨a,_,⟨b,c,d,by simp[ai.size]⟩,e,rfl⟩
 |.bool,_,⟨a,b,c,d,_,e⟩=>⟨a,_,⟨b,c,d,by simp[ai.size]⟩,e,rfl⟩
 |.str,_,⟨a,b,c,d,_,e⟩=>⟨a,_,⟨b,c,d,by simp[ai.size]⟩,e,rfl⟩
 |.a5 _ _,_,⟨a,_,b,c,d,_,e,_⟩=>⟨a,_,⟨b,c,d,by simp[ai.size]⟩,e,rfl⟩
 |.osl _,_,⟨a,_,b,c,d,_,e,_⟩=>⟨a,_,⟨b,c,d,by simp[ai.size]⟩,e,rfl⟩
 |.ptr _ _,_,⟨a,_,b,c,d,_,e,_⟩=>⟨a,_,⟨b,c,d,by simp[ai.size]⟩,e,rfl⟩
 |.optr _,_,⟨a,_,b,c,d,_,e,_⟩=>⟨a,_,⟨b,c,d,by simp[ai.size]⟩,e,rfl⟩
 |.st i,_,⟨h,a,_,_,b,c,d,_,e,_⟩=>⟨a,_,⟨b,c,d,h⟩,e,rfl⟩
 |.pr _ _,_,f=>f.elim
 |.nil,_,f=>f.elim
 |.c6,_,f=>f.elim
 |.mp _,_,⟨a,_,_,b,c,d,_,e,_⟩=>⟨a,_,⟨b,c,d,by simp[ai.size]⟩,e,rfl⟩
 |.dB _ _,_,⟨a,_,_,b,c,d,_,e,_⟩=>⟨a,_,⟨b,c,d,by simp[ai.size]⟩,e,rfl⟩
def dC.EL {P:Program}:∀{τ:ai} {T:TypeId},dC P τ T->∃g,g.cells.size=τ.size/\∀d,P.info? T=some d->d.zero=some g
 |.int _,_,⟨d,a,_,_,b,_⟩|.bool,_,⟨d,a,_,_,b,_⟩|.str,_,⟨d,a,_,_,b,_⟩=>⟨_,rfl,λf c=>by rw[a] at c;cases c;exact b⟩
 |.a5 _ _,_,⟨d,_,a,_,_,b,_⟩|.osl _,_,⟨d,_,a,_,_,b,_⟩|.ptr _ _,_,⟨d,_,a,_,_,b,_⟩|.optr _,_,⟨d,_,a,_,_,b,_⟩=>⟨_,rfl,λf c=>by rw[a] at c;cases c;exact b⟩
 |.st n,_,⟨j,d,_,i,a,k,l,b,m,_,h⟩=>⟨.agg i,h,λf c=>by rw[a] at c;cases c;exact b⟩
 |.pr _ _,_,e=>e.elim
 |.nil,_,e=>e.elim
 |.c6,_,e=>e.elim
 |.mp _,_,⟨d,_,_,a,_,_,b,_⟩=>⟨_,rfl,λf c=>by rw[a] at c;cases c;exact b⟩
 |.dB _ _,_,⟨d,_,_,a,_,_,b,_⟩=>⟨_,rfl,λf c=>by rw[a] at c;cases c;exact b⟩
section
variable {P:Program} {τ:ai} {T:TypeId}
def dC.sizeOf (c:dC P τ T) (b:World):(Go.sizeOf T).run P b=.ok τ.size b:=by obtain⟨e,d,a,_⟩:=c.info;simp[Go.sizeOf,typeInfo,a.info,a.size]
def dC.isAgg (c:dC P τ T) (a:World):(Go.isAgg T).run P a=.ok (oj τ) a:=by obtain⟨g,b,f,e,d⟩:=c.info;simp only[Go.isAgg,Sem.run_bind,run_underlying e,Result.andThen_ok];rw[<-d];cases b<;>rfl
def dC.pos (a:dC P τ T):0<τ.size:=by obtain⟨d,c,b,_⟩:=a.info;exact b.pos
def FW:∀{τ:ai} {T:TypeId},dC P τ T->oj τ=false->τ.size=1
 |.int _,_,_,_|.bool,_,_,_|.str,_,_,_|.a5 _ _,_,_,_|.osl _,_,_,_|.ptr _ _,_,_,_|.optr _,_,_,_|.mp _,_,_,_|.dB _ _,_,_,_=>rfl
 |.st _,_,_,a=>by cases a
 |.pr _ _,_,a,_=>a.elim
 |.nil,_,a,_=>a.elim
 |.c6,_,a,_=>a.elim
def Cn (a:oj τ=false):bG τ g=g.headD undef:=by cases τ<;>first|rfl|cases a
def Co (a:oj τ=true):bG τ g=.agg g.toArray:=by cases τ<;>first|rfl|cases a
def nv (d:dC P τ T) (c:g.length=τ.size) (e:∀a∈g,a.oneCell'=true):(bG τ g).cells=g.toArray:=by
 cases b:oj τ with
 |true=>rw[Co b];rfl
 |false=>
  rw[Cn b];rw[FW d b] at c;obtain⟨a,rfl⟩:=tB.1 c;have:=e a ab;cases a<;>first|rfl|(simp[Value.oneCell'] at this)
def MS (a:dC P τ T) (i:dL e c h g) (b:g.length=τ.size):(loadVar T ⟨c,h,none⟩).run P e=.ok (bG τ g) e:=by
 simp only[loadVar,Sem.run_bind,a.isAgg,Result.andThen_ok];cases d:oj τ with
 |true=>
  simp only[if_true,Sem.run_bind,a.sizeOf,Result.andThen_ok];rw[<-b,run_loadCells_list e ⟨c,h,none⟩ g (λk f j=>by rw[Addr.add_lit];exact i k f j)];rw[Co d];rfl
 |false=>
  rw[FW a d] at b;obtain⟨f,rfl⟩:=tB.1 b;have:=i 0 f rfl;simp only[kv] at this;rw[Cn d];simp[this]
end
def ko:(τ:ai)->Option τ.den
 |.int _=>some (0:Int)
 |.bool=>some false
 |.str=>some ByteArray.empty
 |.a5 _ _=>some []
 |.osl _=>some []
 |.ptr _ _=>some none
 |.optr _=>none
 |.st c=>ko c
 |.pr a b=>match ko a,ko b with|some d,some e=>some (d,e)|_,_=>none
 |.nil=>some ()
 |.c6=>none
 |.mp _=>some none
 |.dB _ _=>some none
mutual
theorem tk {P:Program}:∀{τ:ai} {T:TypeId} {g:τ.den},dC P τ T->ko τ=some g->∃a l,P.info? T=some a/\a.zero=some l/\l=bG τ l.cells.toList/\∀(e:c5->Nat->Prop) (f:World),aP e f τ l.cells.toList g []
 |.int p,_,g,⟨a,c,h,i,d,j⟩,b=>⟨a,_,c,d,rfl,λe f=>by cases b;exact⟨rfl,rfl⟩⟩
 |.bool,_,g,⟨a,c,h,i,d,j⟩,b=>⟨a,_,c,d,rfl,λe f=>by cases b;exact⟨rfl,rfl⟩⟩
 |.str,_,g,⟨a,c,h,i,d,j⟩,b=>⟨a,_,c,d,rfl,λe f=>by cases b;exact⟨rfl,rfl⟩⟩
 |.a5 _ _,_,g,⟨a,_,c,h,i,d,j,_⟩,b=>⟨a,_,c,d,rfl,λe f=>by cases b;exact⟨rfl,none,0,rfl,a6 _,λ_=>rfl,.inl rfl⟩⟩
 |.osl _,_,g,⟨a,_,c,h,i,d,j,_⟩,b=>⟨a,_,c,d,rfl,λe f=>by cases b;exact⟨none,0,rfl,.inl ⟨rfl,rfl,rfl,rfl⟩⟩⟩
 |.ptr _ _,_,g,⟨a,_,c,h,i,d,j,_⟩,b=>⟨a,_,c,d,rfl,λe f=>by cases b;exact⟨rfl,rfl⟩⟩
 |.optr _,_,_,_,b=>by cases b
 |.st n,_,g,⟨_,a,o,q,c,h,i,d,j,m,_⟩,b=>⟨a,_,c,d,rfl,λe f=>NT (τ:=n) m b e f⟩
 |.pr _ _,_,_,k,_=>k.elim
 |.nil,_,_,k,_=>k.elim
 |.c6,_,_,k,_=>k.elim
 |.mp _,_,g,⟨a,_,_,c,h,i,d,j,_⟩,b=>⟨a,_,c,d,rfl,λe f=>by cases b;exact⟨rfl,rfl⟩⟩
 |.dB _ _,_,g,⟨a,_,_,c,h,i,d,j,_⟩,b=>⟨a,_,c,d,rfl,λe f=>by cases b;exact⟨rfl,rfl⟩⟩
theorem NT {P:Program}:∀{τ:ai} {l:List Field} {g:Nat} {f:ac1} {e:τ.den},ha P τ l g f->ko τ=some e->∀(b:c5->Nat->Prop) (d:World),aP b d τ f e []
 |.pr j k,t::y,g,f,e,a,c,b,d=>by
  obtain⟨u,m,v,⟨w,B,aw,q,r⟩,n⟩:=a;simp only[ko] at c;split at c
  ·rename_i z A o p;cases c;obtain⟨x,C,h,i,_,s⟩:=tk (τ:=j) m o;rw[aw] at h;obtain rfl:=ee h;rw[q] at i;obtain rfl:=ee i;exact⟨[],[],rfl,by rw[r];exact s b d,NT (τ:=k) n p b d⟩
  cases c
 |.nil,[],_,f,e,a,c,b,d=>⟨rfl,a⟩
 |.pr _ _,[],_,_,_,a,_,_,_=>a.elim
 |.nil,_::_,_,_,_,a,_,_,_=>a.elim
 |.int _,_,_,_,_,a,_,_,_=>by cases a
 |.bool,_,_,_,_,a,_,_,_=>by cases a
 |.str,_,_,_,_,a,_,_,_=>by cases a
 |.a5 _ _,_,_,_,_,a,_,_,_=>by cases a
 |.osl _,_,_,_,_,a,_,_,_=>by cases a
 |.ptr _ _,_,_,_,_,a,_,_,_=>by cases a
 |.optr _,_,_,_,_,a,_,_,_=>by cases a
 |.st _,_,_,_,_,a,_,_,_=>by cases a
 |.c6,_,_,_,_,a,_,_,_=>by cases a
 |.mp _,_,_,_,_,a,_,_,_=>by cases a
 |.dB _ _,_,_,_,_,a,_,_,_=>by cases a
end
def a1:ai->ai->Bool
 |.int g,.int h=>if g=h then true else false
 |.bool,.bool|.str,.str|.nil,.nil=>true
 |.a5 _ a,.a5 _ b|.a5 _ a,.osl b|.osl a,.a5 _ b|.osl a,.osl b=>a1 a b
 |.ptr _ a,.ptr _ b|.ptr _ a,.optr b|.optr a,.ptr _ b|.optr a,.optr b=>a1 a b
 |.st a,.st b=>a1 a b
 |.mp a,.mp b|.mp a,.dB _ b|.dB _ a,.mp b|.dB _ a,.dB _ b=>a1 a b
 |.pr c d,.pr e f=>a1 c e&&a1 d f
 |_,_=>false
def a1.size:∀{τ b:ai},a1 τ b=true->τ.size=b.size:=by
 intro τ
 induction τ with
 |st h c=>intro b a;cases b<;>simp only[a1] at a<;>first|(simp only[ai.size];exact c a)|cases a
 |pr f g d e=>
  intro b a;cases b<;>simp only[a1] at a<;>try (cases a;done)
  simp only[bc] at a;simp only[ai.size];rw[d a.1,e a.2]
 |_=>intro b a;cases b<;>simp[a1] at a<;>simp[ai.size]
mutual
theorem dC.lay {P:Program}:∀{τ c:ai} {T:TypeId},a1 τ c=true->dC P τ T->dC P c T
 |.int q,c,_,a,b=>by cases c<;>simp[a1] at a;subst a;exact b
 |.bool,c,_,a,b=>by cases c<;>simp[a1] at a;exact b
 |.str,c,_,a,b=>by cases c<;>simp[a1] at a;exact b
 |.a5 _ k,c,_,a,b=>by obtain⟨h,E,d,i,j,e,f,g⟩:=b;cases c<;>simp only[a1] at a<;>first|exact⟨h,E,d,i,j,e,f,dC.lay a g⟩|cases a
 |.osl k,c,_,a,b=>by obtain⟨h,E,d,i,j,e,f,g⟩:=b;cases c<;>simp only[a1] at a<;>first|exact⟨h,E,d,i,j,e,f,dC.lay a g⟩|cases a
 |.ptr _ k,c,_,a,b=>by obtain⟨h,E,d,i,j,e,f,g⟩:=b;cases c<;>simp only[a1] at a<;>first|exact⟨h,E,d,i,j,e,f,dC.lay a g⟩|cases a
 |.optr k,c,_,a,b=>by obtain⟨h,E,d,i,j,e,f,g⟩:=b;cases c<;>simp only[a1] at a<;>first|exact⟨h,E,d,i,j,e,f,dC.lay a g⟩|cases a
 |.st k,c,_,a,b=>by
  obtain⟨p,h,n,o,d,i,j,e,f,g,l⟩:=b;cases c<;>simp only[a1] at a<;>try (cases a;done)
  have:=a1.size a;exact⟨U,h,n,o,d,U,U,e,f,ha.lay a g,U⟩
 |.pr _ _,_,_,_,b=>b.elim
 |.nil,_,_,_,b=>b.elim
 |.c6,_,_,_,b=>b.elim
 |.mp k,c,_,a,b=>by obtain⟨h,m,E,d,i,j,e,f,g,l⟩:=b;cases c<;>simp only[a1] at a<;>first|exact⟨h,m,E,d,i,j,e,f,g,dC.lay a l⟩|cases a
 |.dB _ k,c,_,a,b=>by obtain⟨h,m,E,d,i,j,e,f,g,l⟩:=b;cases c<;>simp only[a1] at a<;>first|exact⟨h,m,E,d,i,j,e,f,g,dC.lay a l⟩|cases a
theorem ha.lay {P:Program}:∀{τ c:ai} {f:List Field} {d:Nat} {e:ac1},a1 τ c=true->ha P τ f d e->ha P c f d e
 |.pr k l,c,m::o,d,e,b,a=>by
  obtain⟨g,h,n,i,j⟩:=a;cases c<;>simp only[a1] at b<;>try (cases b;done)
  simp only[bc] at b;have:=a1.size b.1;exact⟨g,dC.lay b.1 h,U,by rw[<-this];exact i,by rw[<-this];exact ha.lay b.2 j⟩
 |.nil,c,[],_,_,b,a=>by cases c<;>simp[a1] at b;exact a
 |.pr _ _,_,[],_,_,_,a=>a.elim
 |.nil,_,_::_,_,_,_,a=>a.elim
 |.int _,_,_,_,_,_,a=>by cases a
 |.bool,_,_,_,_,_,a=>by cases a
 |.str,_,_,_,_,_,a=>by cases a
 |.a5 _ _,_,_,_,_,_,a=>by cases a
 |.osl _,_,_,_,_,_,a=>by cases a
 |.ptr _ _,_,_,_,_,_,a=>by cases a
 |.optr _,_,_,_,_,_,a=>by cases a
 |.st _,_,_,_,_,_,a=>by cases a
 |.c6,_,_,_,_,_,a=>by cases a
 |.mp _,_,_,_,_,_,a=>by cases a
end
structure rH where
 b:Nat
 T:TypeId
 k:IntKind
 xs:ac8
def Hj (P:Program) (a:rH):Prop:=∃b,P.underlying a.T=some (.array a.xs.length b)/\dC P (.int a.k) b
structure dR where
 P:Program
 tt:List (TypeId×ai)
 ok:∀T τ,au tt T=some τ->dC P τ T
 mix:P.follows .mixedOrders=true
 glob:List rH:=[]
 gok:∀g∈glob,Hj P g:=by intro g h;cases h
end
section
def e7:Nat:=4294967296
def ax {b:Type} (c:List b) (a:Int):Option b:=if 0<=a then c[a.toNat]? else none
def Jv {b:List z} {c:z} (a:ax b S=some c):S=(S.toNat:Int)/\S.toNat<b.length/\b[S.toNat]?=some c:=by
 unfold ax at a;split at a
 ·exact⟨U,(ec.1 a).1,a⟩
 cases a
inductive gu where
 |du (av:ao) (new:List (Nat×aH))
 |part (α:Type) (φ:α->Prop) (f:α->ao×List (Nat×aH))
 |bad
def gu.K (e:gu) (Q:ao->List (Nat×aH)->Prop):Prop:=
 match e with
 |.du c d=>Q c d
 |.part f g b=>∃a:f,g a/\Q (b a).1 (b a).2
 |.bad=>False
def ai.pure:ai->Bool
 |.osl _|.optr _|.c6|.mp _=>false
 |.st c=>c.pure
 |.pr a b=>a.pure&&b.pure
 |_=>true
def dF:ai->List aW->Option ai
 |τ,[]=>some τ
 |.osl c,.idx _::b=>dF c b
 |.optr c,.deref::b=>dF c b
 |.mp c,.deref::b=>dF c b
 |.st c,.unst::b=>dF c b
 |.pr a _,.fst::b=>dF a b
 |.pr _ d,.snd::b=>dF d b
 |_,_=>none
def dP:ai->Nat->Option (List aW×ai)
 |.pr a _,0=>some ([.fst],a)
 |.pr _ c,d+1=>match dP c d with|some b=>some (.snd::b.1,b.2)|none=>none
 |_,_=>none
def dj:ai->Nat->Nat
 |.pr _ _,0=>0
 |.pr a b,c+1=>a.size+dj b c
 |_,_=>0
def po:(e:ai)->e.den->Nat->Option aH
 |.pr a _,b,0=>some ⟨a,b.1⟩
 |.pr _ c,b,d+1=>po c b.2 d
 |_,_,_=>none
def EA {h:Program}:∀{τ:ai} {j:List Field} {f:Nat} {g:ac1} {e:Nat} {s:List aW} {τf:ai},ha h τ j f g->dP τ e=some (s,τf)->∃c,j[e]?=some c/\c.offset=f+dj τ e/\dC h τf c.type
 |.pr a i,c::q,f,g,0,s,τf,d,b=>by simp only[dP,bF,fe] at b;obtain⟨rfl,rfl⟩:=b;exact⟨c,rfl,by rw[d.1];rfl,d.2.1⟩
 |.pr a i,c::q,f,g,e+1,s,τf,d,b=>by
  simp only[dP] at b;split at b
  ·rename_i k p;simp only[bF,fe] at b;obtain⟨rfl,rfl⟩:=b;obtain⟨l,m,n,o⟩:=EA (τ:=i) d.2.2.2.2 (s:=k.1) (τf:=k.2) p;exact⟨l,by simpa using m,by rw[n];simp only[dj];omega,o⟩
  cases b
 |.pr _ _,[],_,_,_,_,_,d,_=>d.elim
 |.int _,_,_,_,_,_,_,_,b=>by cases b
 |.bool,_,_,_,_,_,_,_,b=>by cases b
 |.str,_,_,_,_,_,_,_,b=>by cases b
 |.a5 _ _,_,_,_,_,_,_,_,b=>by cases b
 |.osl _,_,_,_,_,_,_,_,b=>by cases b
 |.ptr _ _,_,_,_,_,_,_,_,b=>by cases b
 |.optr _,_,_,_,_,_,_,_,b=>by cases b
 |.st _,_,_,_,_,_,_,_,b=>by cases b
 |.nil,_,_,_,_,_,_,_,b=>by cases b
 |.c6,_,_,_,_,_,_,_,b=>by cases b
def ED:∀{τ:ai} {f:τ.den} {d:Nat} {c:aH},po τ f d=some c->∃e,dP τ d=some (e,c.1)
 |.pr a g,f,0,c,b=>by simp only[po,bF] at b;subst b;exact⟨_,rfl⟩
 |.pr a g,f,d+1,c,b=>by obtain⟨e,h⟩:=ED (τ:=g) b;exact⟨.snd::e,by simp[dP,h]⟩
 |.int _,_,_,_,b=>by cases b
 |.bool,_,_,_,b=>by cases b
 |.str,_,_,_,b=>by cases b
 |.a5 _ _,_,_,_,b=>by cases b
 |.osl _,_,_,_,b=>by cases b
 |.ptr _ _,_,_,_,b=>by cases b
 |.optr _,_,_,_,b=>by cases b
 |.st _,_,_,_,b=>by cases b
 |.nil,_,_,_,b=>by cases b
 |.c6,_,_,_,b=>by cases b
def uK:∀{τ:ai} {c:Nat} {s:List aW} {tf:ai},dP τ c=some (s,tf)->dj τ c+tf.size<=τ.size
 |.pr a d,0,s,tf,b=>by simp only[dP,bF,fe] at b;obtain⟨_,rfl⟩:=b;simp[dj,ai.size]
 |.pr a d,c+1,s,tf,b=>by
  simp only[dP] at b;split at b
  ·rename_i e f;simp only[bF,fe] at b;obtain⟨_,rfl⟩:=b;have:=uK (τ:=d) (s:=e.1) (tf:=e.2) f;simp only[dj,ai.size];omega
  cases b
 |.int _,_,_,_,b=>by cases b
 |.bool,_,_,_,b=>by cases b
 |.str,_,_,_,b=>by cases b
 |.a5 _ _,_,_,_,b=>by cases b
 |.osl _,_,_,_,b=>by cases b
 |.ptr _ _,_,_,_,b=>by cases b
 |.optr _,_,_,_,b=>by cases b
 |.st _,_,_,_,b=>by cases b
 |.nil,_,_,_,b=>by cases b
 |.c6,_,_,_,b=>by cases b
def EC {j:c5->Nat->Prop} {w:World}:∀{τ:ai} {f:τ.den} {e:Nat} {c:aH} {d:ac1},aP j w τ d f []->po τ f e=some c->aP j w c.1 ((d.drop (dj τ e)).take c.1.size) c.2 []/\dj τ e+c.1.size<=τ.size
 |.pr a k,f,0,c,d,i,b=>by simp only[po,bF] at b;subst b;obtain⟨g,f2,h,l,m⟩:=i;obtain⟨rfl,rfl⟩:g=[]/\f2=[]:=(by simpa[eq_comm] using h);exact⟨by simpa[dj] using l,by simp[dj,ai.size]⟩
 |.pr a k,f,e+1,c,d,i,b=>by obtain⟨g,f2,h,l,m⟩:=i;obtain⟨rfl,rfl⟩:g=[]/\f2=[]:=(by simpa[eq_comm] using h);obtain⟨n,o⟩:=EC (τ:=k) m b;refine⟨?_,by simp only[dj,ai.size];omega⟩;simp only[dj];rwa[nN] at n
 |.int _,_,_,_,_,_,b=>by cases b
 |.bool,_,_,_,_,_,b=>by cases b
 |.str,_,_,_,_,_,b=>by cases b
 |.a5 _ _,_,_,_,_,_,b=>by cases b
 |.osl _,_,_,_,_,_,b=>by cases b
 |.ptr _ _,_,_,_,_,_,b=>by cases b
 |.optr _,_,_,_,_,_,b=>by cases b
 |.st _,_,_,_,_,_,b=>by cases b
 |.nil,_,_,_,_,_,b=>by cases b
 |.c6,_,_,_,_,_,b=>by cases b
def aS.eQ {w:World} {a:Loc}:aS w d v g [] q a B↔d=q/\v=a/\g=B:=by cases d<;>exact Iff.rfl
def aS.append {w:World}:∀{p c:List aW} {τ u v:ai} {n q r:Loc} {m k l:ac1},aS w τ n m p u q k->aS w u q k c v r l->aS w τ n m (p++c) v r l
 |[],c,τ,_,_,_,_,_,_,_,_,a,b=>by obtain⟨rfl,rfl,rfl⟩:=aS.eQ.1 a;exact b
 |s::p,c,τ,_,_,_,_,_,_,_,_,a,b=>by
  cases τ<;>cases s<;>simp only[aS] at a
  case osl.idx t i=>
   obtain⟨d,o,z,x,e,f,g,h,j,y⟩:=a;exact⟨d,o,z,x,e,f,g,h,j,y.append b⟩
  case optr.deref t=>
   obtain⟨d,o,e,f,g,h,j⟩:=a;exact⟨d,o,e,f,g,h,j.append b⟩
  case st.unst t=>exact aS.append (p:=p) (τ:=t) a b
  case pr.fst t1 t2=>exact aS.append (p:=p) (τ:=t1) a b
  case pr.snd t1 t2=>exact aS.append (p:=p) (τ:=t2) a b
def aS.here {w:World}:aS w d v g [] d v g:=by cases d<;>exact⟨rfl,rfl,rfl⟩
def aS.ty {w:World}:∀{p:List aW} {τ c:ai} {m n:Loc} {e f:ac1},aS w τ m e p c n f->dF τ p=some c
 |[],τ,_,_,_,_,_,a=>by obtain⟨rfl,_⟩:=aS.eQ.1 a;cases τ<;>rfl
 |s::p,τ,_,_,_,_,_,a=>by
  cases τ<;>cases s<;>simp only[aS] at a
  case osl.idx t i=>obtain⟨d,o,r,q,g,h,j,k,b,l⟩:=a;exact l.ty
  case optr.deref t=>obtain⟨d,o,g,h,j,k,b⟩:=a;exact b.ty
  case st.unst t=>exact aS.ty (p:=p) (τ:=t) a
  case pr.fst t1 t2=>exact aS.ty (p:=p) (τ:=t1) a
  case pr.snd t1 t2=>exact aS.ty (p:=p) (τ:=t2) a
def aS.at {w:World}:∀{q:List aW} {τ r:ai} {h p:Loc} {g j:ac1},aS w τ h g q r p j->g.length=τ.size->(∀b o,h=some (b,o)->dL w b o g)->j.length=r.size/\∀b o,p=some (b,o)->dL w b o j
 |[],τ,_,_,_,_,_,d,f,e=>by obtain⟨rfl,rfl,rfl⟩:=aS.eQ.1 d;exact⟨f,e⟩
 |s::q,τ,_,h,_,g,_,d,f,e=>by
  cases τ<;>cases s<;>simp only[aS] at d
  case osl.idx t i=>
   obtain⟨b,o,A,z,u,v,n,k,l,x⟩:=d;exact x.at k (λm y c=>by simp only[bF,fe] at c;obtain⟨rfl,rfl⟩:=c;exact l)
  case optr.deref t=>
   obtain⟨b,o,u,v,n,k,l⟩:=d;exact l.at n (λm y c=>by simp only[bF,fe] at c;obtain⟨rfl,rfl⟩:=c;exact k)
  case st.unst t=>exact aS.at (τ:=t) d f e
  case pr.fst a b=>
   exact aS.at (τ:=a) d (by simp only[ai.size] at f;simp;omega) (λb o c=>(e b o c).take)
  case pr.snd a b=>
   refine aS.at (τ:=b) d (by simp only[ai.size] at f;simp;omega) (λm o c=>?_);cases h with
   |none=>simp at c
   |some B=>
    simp only[fd,bF,fe] at c;obtain⟨rfl,rfl⟩:=c;exact(e _ _ rfl).drop
def aS.Br {w:World}:∀{τ:ai} {e:Nat} {s:List aW} {τf:ai} {l:Loc} {cs:ac1},dP τ e=some (s,τf)->aS w τ l cs s τf (l.map λc=>(c.1,c.2+dj τ e)) ((cs.drop (dj τ e)).take τf.size)
 |.pr a f,0,s,τf,l,cs,d=>by
  simp only[dP,bF,fe] at d;obtain⟨rfl,rfl⟩:=d;have:(l.map λc=>(c.1,c.2+dj (.pr a f) 0))=l:=(by cases l<;>simp[dj]);rw[this];simp only[aS,dj,kS]
  first|exact aS.here|exact⟨rfl,rfl,rfl⟩|trivial|simp
 |.pr a f,e+1,s,τf,l,cs,d=>by
  simp only[dP] at d;split at d
  ·rename_i c g;simp only[bF,fe] at d;obtain⟨rfl,rfl⟩:=d;have:=aS.Br (w:=w) (τ:=f) (s:=c.1) (τf:=c.2) (l:=l.map λc=>(c.1,c.2+a.size)) (cs:=cs.drop a.size) g;simp only[aS,dj];rw[nN] at this;cases l with
   |none=>exact this
   |some h=>simp only[fd,nT] at this|-;exact this
  cases d
 |.int _,_,_,_,_,_,b=>by cases b
 |.bool,_,_,_,_,_,b=>by cases b
 |.str,_,_,_,_,_,b=>by cases b
 |.a5 _ _,_,_,_,_,_,b=>by cases b
 |.osl _,_,_,_,_,_,b=>by cases b
 |.ptr _ _,_,_,_,_,_,b=>by cases b
 |.optr _,_,_,_,_,_,b=>by cases b
 |.st _,_,_,_,_,_,b=>by cases b
 |.nil,_,_,_,_,_,b=>by cases b
 |.c6,_,_,_,_,_,b=>by cases b
def c4.uniq:∀{p:List aW} {τ:ai} {e:τ.den} {c:ai} {f g:c.den},c4 τ e p c f->c4 τ e p c g->f=g
 |[],τ,_,_,_,_,a,b=>by obtain⟨rfl,a⟩:=c4.eQ.1 a;obtain⟨_,b⟩:=c4.eQ.1 b;exact a.symm.trans b
 |s::p,τ,_,_,_,_,a,b=>by
  cases τ<;>cases s<;>simp only[c4] at a b
  case osl.idx=>
   obtain⟨i,h,a⟩:=a;obtain⟨j,d,b⟩:=b;rw[h] at d;obtain rfl:=ee d;exact a.uniq b
  case optr.deref=>exact c4.uniq (p:=p) a b
  case st.unst=>exact c4.uniq (p:=p) a b
  case pr.fst=>exact c4.uniq (p:=p) a b
  case pr.snd=>exact c4.uniq (p:=p) a b
def Yields (E:dR) (C:dn) (st:aO) (a:Act) (w:World) (I:Nat->Prop) (rt:Nat->ac1) (fp:Nat->ac7) (o:Oper) (Q:ao->List (Nat×aH)->Prop):Prop:=
 ∃j d e i g f c,(execOp a.eval o).run E.P w=.ok (.value j) d/\gq w d/\(∀b,I b->e b)/\(∀b,e b->I b\/(w.heap.size<=b/\b<d.heap.size))/\tF C st w d e c i g/\bC (ba e C.B) d (c++st.h) (dz c i rt) (dz c g fp) f j/\Q f c
section
variable {E:dR} {C:dn} {st:aO} {a:Act} {w:World} {I:Nat->Prop} {rt:Nat->ac1} {fp:Nat->ac7} {o:Oper} {Q:ao->List (Nat×aH)->Prop}
def Yields.pure {v:Value} (d:(execOp a.eval o).run E.P w=.ok (.value v) w) (e:bC (ba I C.B) w st.h rt fp R v) (c:Q R []):Yields E C st a w I rt fp o Q:=
 ⟨v,w,I,rt,fp,R,[],d,.refl w,λ_ b=>b,λ_ b=>.inl b,.nil,e,c⟩
def Yields.wp (t:br C st a.tmps w I rt fp) (k:Yields E C st a w I rt fp o Q) {next:Act->World->Prop} {j:Exit->Act->World->Prop} {f:Nat} (u:o.dst=some f) (v:C.ok f) (x:∀b c e d,Q b c->e.defers=a.defers->e3 C ⟨(f,b)::st.g,c++st.h⟩ e.tmps d->next e d):o.wp E.P a w next j:=by
 obtain⟨y,d,i,A,z,b,c,l,m,n,p,q,r,s⟩:=k;unfold Oper.wp;rw[l];show next (a.put o.dst y) d
 rw[u];exact x b c _ _ s rfl ⟨i,_,_,(t.ext m n p q).put v r⟩
def ke (h:BinOp) (a:IntKind) (d:Int) (g:IntKind) (b:Int):gu:=
 let c (i:Prop) (f:Int):gu:=if a=g then .part Int (λc=>i/\f=c) (λc=>(.val (.int a) c,[])) else .bad
 let e (f:Bool):gu:=if a=g then .du (.val .bool f) [] else .bad
 match h with
 |.add=>c True (a.wrap (d+b))
 |.sub=>c True (a.wrap (d-b))
 |.mul=>c True (a.wrap (d*b))
 |.quo=>c (b≠0) (a.wrap (d.tdiv b))
 |.rem=>c (b≠0) (d.tmod b)
 |.and=>c True (a.wrap (BitVec.ofInt a.bits d&&&BitVec.ofInt a.bits b).toNat)
 |.or=>c True (a.wrap (BitVec.ofInt a.bits d|||BitVec.ofInt a.bits b).toNat)
 |.xor=>c True (a.wrap (BitVec.ofInt a.bits d^^^BitVec.ofInt a.bits b).toNat)
 |.andNot=>c True (a.wrap (BitVec.ofInt a.bits d&&&~~~BitVec.ofInt a.bits b).toNat)
 |.shl=>.part Int (λc=>0<=b/\a.wrap (d*2^min b.toNat a.bits)=c) (λc=>(.val (.int a) c,[]))
 |.shr=>.part Int (λc=>0<=b/\d.fdiv (2^min b.toNat a.bits)=c) (λc=>(.val (.int a) c,[]))
 |.eql=>e (d==b)
 |.neq=>e (d !=b)
 |.lss=>e (decide (d<b))
 |.leq=>e (decide (d<=b))
 |.gtr=>e (decide (d>b))
 |.geq=>e (decide (d>=b))
def Dx (c:BinOp) (a b:ao):gu:=
 match a,b with
 |.val (.int d) a,.val (.int e) b=>ke c d a e b
 |.val .bool a,.val .bool b=>match c with
  |.eql=>.du (.val .bool (a==b)) []
  |.neq=>.du (.val .bool (!(a==b))) []
  |_=>.bad
 |_,_=>.bad
def Pp {d:BinOp} {r:TypeId} {j:IntKind} {m:Int} (f:o.op=.binOp d G b i r) (g:a.eval b=.int u m) (h:a.eval i=.int j S) (c:(ke d u m j S).K Q):Yields E C st a w I rt fp o Q:=by
 have e:∀w,(eqGuard d G b i (.int u m) (.int j S)).run E.P w=.ok () w:=λw=>(by unfold eqGuard;cases d<;>simp);have n:d=.shl->Yields E C st a w I rt fp o Q:=(by rintro rfl;simp only[ke] at c;obtain⟨k,⟨l,rfl⟩,c⟩:=c;exact .pure (v:=.int u _) (by simp[execOp,f,g,h,e,binOp,Op.shift,(U:¬S<0)]) (.int u _) c);have p:d=.shr->Yields E C st a w I rt fp o Q:=(by rintro rfl;simp only[ke] at c;obtain⟨k,⟨l,rfl⟩,c⟩:=c;exact .pure (v:=.int u _) (by simp[execOp,f,g,h,e,binOp,Op.shift,(U:¬S<0)]) (.int u _) c);by_cases q:u=j
 case neg=>
  cases d<;>simp only[ke,q,if_false] at c
  case shl=>exact n rfl
  case shr=>exact p rfl
  all_goals exact c.elim
 subst q;cases d<;>simp only[ke,if_true] at c
 case shl=>exact n rfl
 case shr=>exact p rfl
 case quo|rem=>
  obtain⟨k,⟨l,rfl⟩,c⟩:=c;exact .pure (v:=.int u _) (by simp[execOp,f,g,h,e,binOp,Op.intDiv,l]) (.int u _) c
 case add|sub|mul=>
  obtain⟨k,⟨_,rfl⟩,c⟩:=c;exact .pure (v:=.int u _) (by simp[execOp,f,g,h,e,binOp,Op.intArith]) (.int u _) c
 case and|or|xor|andNot=>
  obtain⟨k,⟨_,rfl⟩,c⟩:=c;exact .pure (v:=.int u _) (by simp only[execOp,f,g,h,Sem.run_bind,e,binOp,Op.intBits];simp) (.int u _) c
 all_goals exact .pure (v:=.bool _) (by simp[execOp,f,g,h,e,binOp,Op.intCmp]) (.bool _) c
def run_equalIn_bool (w:World) (c:Nat) (a b:Bool) (d:N.underlying G=some .bool):(Op.equalIn (c+1) G (.bool a) (.bool b)).run N w=.ok (a==b) w:=by simp[Op.equalIn,run_underlying d]
def run_eql_bool (w:World) (a b:Bool) (c:N.underlying G=some .bool):(binOp .eql G (.bool a) (.bool b)).run N w=.ok (.bool (a==b)) w:=by simp only[binOp];simp[Op.equal,Op.maxDepth,run_equalIn_bool w 9999 a b c]
def run_neq_bool (w:World) (a b:Bool) (c:N.underlying G=some .bool):(binOp .neq G (.bool a) (.bool b)).run N w=.ok (.bool (!(a==b))) w:=by simp only[binOp];simp[Op.equal,Op.maxDepth,run_equalIn_bool w 9999 a b c]
def H1 (t:br C st a.tmps w I rt fp) {h:BinOp} {D:TypeId} (q:o.op=.binOp h G b i D) (B:∀j k:Bool,(h=.eql\/h=.neq)->(aR st.g b=.val .bool j/\aR st.g i=.val .bool k)->E.P.underlying G=some .bool) (d:(Dx h (aR st.g b) (aR st.g i)).K Q):Yields E C st a w I rt fp o Q:=by
 have e:=t.aR b;have f:=t.aR i;unfold Dx at d;split at d
 ·rename_i H L J M n p;rw[n] at e;rw[p] at f;obtain⟨c,m⟩:∃c,c=a.eval b:=⟨_,rfl⟩;obtain⟨F,l⟩:∃c,c=a.eval i:=⟨_,rfl⟩;rw[<-m] at e;rw[<-l] at f;cases e with|val r=>cases f with|val s=>
  obtain⟨_,rfl⟩:=r;obtain⟨_,rfl⟩:=s;exact Pp q m.symm l.symm d
 ·rename_i j k n p;have l:=B j k;have A:aR st.g b=.val .bool j/\aR st.g i=.val .bool k:=⟨n,p⟩;rw[n] at e;rw[p] at f;obtain⟨c,m⟩:∃c,c=a.eval b:=⟨_,rfl⟩;obtain⟨F,x⟩:∃c,c=a.eval i:=⟨_,rfl⟩;rw[<-m] at e;rw[<-x] at f;cases e with|val r=>cases f with|val s=>
  obtain⟨_,rfl⟩:=r;obtain⟨_,rfl⟩:=s;have z:a.eval b=.bool j:=m.symm;have y:a.eval i=.bool k:=x.symm;have u:∀w,(eqGuard h G b i (.bool j) (.bool k)).run E.P w=.ok () w:=λw=>(by unfold eqGuard;cases h<;>simp);split at d
  ·have:=l (.inl rfl) A;exact .pure (v:=.bool _) (by simp only[execOp,q,z,y,Sem.run_bind,u,Result.andThen_ok,run_eql_bool _ _ _ this];rfl) (.bool _) d
  ·have:=l (.inr rfl) A;exact .pure (v:=.bool _) (by simp only[execOp,q,z,y,Sem.run_bind,u,Result.andThen_ok,run_neq_bool _ _ _ this];rfl) (.bool _) d
  exact d.elim
 exact d.elim
end
end
section
section
variable {E:dR} {C:dn} {st:aO} {a:Act} {w:World} {I:Nat->Prop} {rt:Nat->ac1} {fp:Nat->ac7} {o:Oper} {Q:ao->List (Nat×aH)->Prop}
def br.notM (d:br C st x w I rt fp) {id:Nat} (g:au st.h id=some F):∀a∈fp id,∀c,¬ba I C.B c a:=λa e c f=>by
 have:=(d.tree id F g).2.2 a e;rcases lM f with b|b
 ·exact this.1 b
 exact this.2.1 b
def br.jk (e:br C st x w I rt fp) {id:Nat} (f:au st.h id=some F) {p:List aW} {τ:ai} {i:τ.den} (o:c4 F.1 F.2 p τ i) (q:aS w F.1 none (rt id) p d v g):∃_e:d=τ,∃a,aP (ba I C.B) w τ g i a/\nR w v g τ.size/\∀c∈a,c∈fp id:=by obtain⟨s,r,_⟩:=e.tree id F f;obtain⟨u,t,a,y,j,k,l,m,_⟩:=Bs p (loc:=none) s (λ_ _ b=>by cases b) r (λ_ _ b=>by cases b) (e.notM f) o;obtain⟨rfl,rfl,rfl⟩:=q.ij j;exact⟨rfl,a,k,l,λc n=>m.mem_iff.2 (by simp[n])⟩
def br.MJ (c:br C st x w I rt fp) {id:Nat} (f:au st.h id=some F) (e:aS w F.1 none (rt id) l d v g):g.length=d.size/\∀a o,v=some (a,o)->dL w a o g:=e.at (c.tree id F f).1.len (λ_ _ b=>by cases b)
def np {u:c5->Nat->Prop}:∀{p:List aW} {τ:ai} {E:Loc} {j:ac1} {q:τ.den} {h:ac7} {e:ai} {F:Loc} {r:ac1},aP u w τ j q h->aS w τ E j p (.optr e) F r->∃c o d,r=[.pointer (some ⟨c,o,none⟩)]/\d.length=e.size/\dL w c o d
 |[],τ,_,_,_,_,_,_,_,a,b=>by obtain⟨rfl,rfl,rfl⟩:=aS.eQ.1 b;obtain⟨c,o,h,d,l,_,m,g,_⟩:=a;exact⟨c,o,d,l,m,g⟩
 |s::p,τ,_,j,q,h,_,_,_,a,b=>by
  cases τ<;>cases s<;>simp only[aS] at b
  case osl.idx e i=>
   obtain⟨c,o,N,J,d,rfl,t,m,g,n⟩:=b;obtain⟨I,K,f,a⟩:=a;simp only[fJ,Value.slice.injEq,and_true] at f;obtain⟨rfl,rfl,rfl⟩:=f;rcases a with⟨k,_⟩|⟨v,G,B,k,_,aw,O,P,H⟩
   ·cases k
   cases k;obtain⟨z,L,x,y⟩:=H i q[i] (B[i]'(by omega)) ab ab
   obtain rfl:=g.eq x U;exact np (p:=p) y n
  case optr.deref e=>
   obtain⟨c,o,d,rfl,m,g,n⟩:=b;obtain⟨v,G,h,z,f,_,M,C,_,D⟩:=a;simp only[fJ,Value.pointer.injEq,bF,Addr.mk.injEq,and_true] at f;obtain⟨rfl,rfl⟩:=f;obtain rfl:=g.eq C U;exact np (p:=p) D n
  case st.unst e=>exact np (p:=p) (τ:=e) a b
  case pr.fst t1 t2=>obtain⟨A,f2,_,l,_⟩:=a;exact np (p:=p) (τ:=t1) l b
  case pr.snd t1 t2=>obtain⟨A,f2,_,_,t⟩:=a;exact np (p:=p) (τ:=t2) t b
def eX (tt:List (TypeId×ai)) (a:TypeId):Option ai:=match au tt a with|some (.a5 _ b)=>some b|_=>none
def jS (tt:List (TypeId×ai)) (a:TypeId):Option ai:=match au tt a with|some (.st b)=>some b|_=>none
def eX.ok {b:TypeId} {e:ai} (c:eX E.tt b=some e):∃d a,E.P.info? b=some d/\E.P.underlying b=some (.slice a)/\dC E.P e a:=by
 unfold eX at c;split at c
 ·rename_i j k i;cases c;obtain⟨d,a,f,_,_,_,g,h⟩:=E.ok b _ i;exact⟨d,a,f,g,h⟩
 cases c
def jS.ok {c:TypeId} {e:ai} (b:jS E.tt c=some e):∃a d,E.P.underlying c=some (.struct a)/\ha E.P e a.toList 0 d:=by
 unfold jS at b;split at b
 ·rename_i k h;cases b;obtain⟨_,j,a,d,i,_,_,_,f,g,_⟩:=E.ok c _ h;exact⟨a,d.toList,f,g⟩
 cases b
def sC (tt:List (TypeId×ai)) (e:List (Nat×aH)) (g:TypeId) (b:ao):gu:=
 match eX tt g with
 |none=>.bad
 |some _=>match b with
  |.val (.a5 _ _) a=>.du (.val (.int .i64) (a.length:Int)) []
  |.bQ (.slice none 0 0)=>.du (.val (.int .i64) (0:Int)) []
  |.ref id d=>match au e id with
   |some ⟨c,b⟩=>match dF c d with
    |some (.osl f)=>.part (List f.den) (λa=>c4 c b d (.osl f) a) (λa=>(.val (.int .i64) (a.length:Int),[]))
    |_=>.bad
   |none=>.bad
  |.view _ _ i h=>.du (.val (.int .i64) ((h-i:Nat):Int)) []
  |.app id d c j _=>match au e id with
   |some ⟨k,b⟩=>.part (List c.den) (λa=>c4 k b d (.osl c) a) (λa=>(.val (.int .i64) ((a.length+j.length:Nat):Int),[]))
   |none=>.bad
  |_=>.bad
def uT (f:eX E.tt G=some d) (g:o.op=.call {callee:=.builtin .len,args:=#[b],argTypes:=#[G]}) (i:a.eval b=.slice r c h):(execOp a.eval o).run E.P w=.ok (.value (.int .i64 c)) w:=by obtain⟨k,j,_,e,_⟩:=eX.ok f;simp[execOp,g,resolve,invoke,builtin,i,Builtin.len_,run_underlying e,goInt]
def St (s:br C st a.tmps w I rt fp) (j:o.op=.call {callee:=.builtin .len,args:=#[b],argTypes:=#[G]}) (c:(sC E.tt st.h G (aR st.g b)).K Q):Yields E C st a w I rt fp o Q:=by
 have d:=s.aR b;unfold sC at c;split at c
 ·exact c.elim
 rename_i T i;generalize f:a.eval b=U at d;split at c
 ·rename_i R B u e;rw[e] at d;cases d with|val A=>
  obtain⟨_,p,q,rfl,_⟩:=A;exact .pure (uT i j f) (.int _ _) c
 ·rename_i e;rw[e] at d;cases d;exact .pure (uT i j f) (.int _ _) c
 ·rename_i id t e;rw[e] at d;split at c
  ·rename_i F D l;split at c
   ·rename_i B O;obtain⟨u,m,c⟩:=c;cases d with|ref k n=>
    rw[l] at k;cases k;obtain⟨rfl,H,z,_⟩:=s.jk l m n;obtain⟨p,q,rfl,_⟩:=z;exact .pure (uT i j f) (.int _ _) c
   exact c.elim
  exact c.elim
 ·rename_i id t P M e;rw[e] at d;cases d with
  |kn=>exact .pure (uT i j f) (.int _ _) c
  |view k n=>exact .pure (uT i j f) (.int _ _) c
 ·rename_i id t F V S e;rw[e] at d;split at c
  ·rename_i W D l;obtain⟨u,m,c⟩:=c;cases d with|app k N n x J L v=>
   rw[l] at k;cases k;obtain⟨p,q,r,_⟩:=v;simp only[fJ,and_true] at r;have y:=c4.uniq m x;subst y;rw[r] at f;have:=uT (w:=w) i j f;rw[lu] at this;exact .pure this (.int _ _) c
  exact c.elim
 exact c.elim
def aS.JJ {o:Nat} (a:h<M) (b:g.length=d.size) (e:dL w c (o+h*d.size) g):aS w (.osl d) v [.slice (some ⟨c,o,none⟩) M O] [.idx h] d (some (c,o+h*d.size)) g:=⟨c,o,M,O,g,rfl,a,b,e,aS.here⟩
def aS.D9 {o:Nat} (a:g.length=d.size) (b:dL w c o g):aS w (.optr d) v [.pointer (some ⟨c,o,none⟩)] [.deref] d (some (c,o)) g:=⟨c,o,g,rfl,a,b,aS.here⟩
def sx (
 tt:List (TypeId×ai)) (i:List (Nat×aH)) (k:TypeId) (e d:ao):gu:=
 match eX tt k with
 |none=>.bad
 |some g=>match d with
  |.val (.int _) d=>match e with
   |.val (.a5 m b) n=>bif a1 g b then .part b.den (λh=>ax n d=some h) (λh=>(.val (.ptr m b) (some h),[])) else .bad
   |.ref id c=>match au i id with
    |some ⟨f,e⟩=>match dF f c with
     |some (.osl b)=>bif a1 g b then .part (List b.den×Nat) (λa=>c4 f e c (.osl b) a.1/\d=(a.2:Int)/\a.2<a.1.length) (λa=>(.addr id (c++[.idx a.2]),[])) else .bad
     |_=>.bad
    |none=>.bad
   |.view id c j l=>match au i id with
    |some ⟨f,e⟩=>match dF f c with
     |some (.osl b)=>bif a1 g b then .part (List b.den×Nat) (λa=>c4 f e c (.osl b) a.1/\d=(a.2:Int)/\a.2<l-j) (λa=>(.addr id (c++[.idx (j+a.2)]),[])) else .bad
     |_=>.bad
    |none=>.bad
   |_=>.bad
  |_=>.bad
def EO (j:eX E.tt G=some q) (l:a1 q d=true) (m:o.op=.indexAddr G i b) {e:Nat} (p:a.eval i=.slice (some ⟨M,O,none⟩) h e) (k:a.eval b=.int u c) (t:c<h):(execOp a.eval o).run E.P w=.ok (.value (.pointer (some ⟨M,O+c*d.size,none⟩))) w:=by obtain⟨v,r,_,f,g⟩:=eX.ok j;have n:=(g.lay l).sizeOf w;have:(0:Int)<=(c:Int)/\(c:Int)<(h:Int):=⟨U,U⟩;simp[execOp,m,p,k,Instr.indexAt,asIntOf,run_underlying f,this,n,Addr.add_lit];intro s;omega
def RU (B:br C st a.tmps w I rt fp) (N:o.op=.indexAddr G i b) (c:(sx E.tt st.h G (aR st.g i) (aR st.g b)).K Q):Yields E C st a w I rt fp o Q:=by
 have m:=B.aR i;have M:=B.aR b;unfold sx at c;split at c
 ·exact c.elim
 rename_i V L;generalize O:a.eval i=d7 at m;generalize P:a.eval b=d8 at M;split at c
 case h_2=>exact c.elim
 rename_i am R a3;rw[a3] at M;cases M with|val T=>
 obtain⟨_,rfl⟩:=T;split at c
 ·rename_i cv f z r;cases d:a1 V f with
  |false=>rw[d] at c;exact c.elim
  |true=>
   rw[d] at c;obtain⟨W,co,c⟩:=c;rw[r] at m;cases m with|val T=>
   obtain⟨_,X,Y,rfl,aw,an,S⟩:=T;obtain⟨al,Z,a0⟩:=Jv co;rcases S with rfl|⟨A,v,rfl,bl,y⟩
   ·simp at Z
   obtain⟨F,p,q,D⟩:=y _ _ a0;have ci:a.eval b=.int am (R.toNat:Nat):=(by rw[P];show Value.int am R=_;rw[<-al]);exact .pure (EO L d N O ci Z) (.val (τ:=.ptr cv f) (x:=some W) (cs:=[.pointer (some ⟨A,v+R.toNat*f.size,none⟩)]) ⟨rfl,A,_,F,rfl,bl,p,q,D⟩) c
 ·rename_i id dl r;split at c
  case h_2=>exact c.elim
  rename_i ap W l;split at c
  case h_2=>exact c.elim
  rename_i f ce;cases d:a1 V f with
  |false=>rw[d] at c;exact c.elim
  |true=>
   rw[d] at c;obtain⟨⟨z,e⟩,⟨s,rfl,j⟩,c⟩:=c;simp only at s j c;rw[r] at m;cases m with|ref u t=>
   rw[l] at u;cases u;obtain⟨rfl,a4,k,_⟩:=B.jk l s t;obtain⟨X,Y,rfl,k⟩:=k;rcases k with⟨_,rfl,_⟩|⟨A,v,H,rfl,_,aw,an,S,y⟩
   ·simp at j
   obtain⟨F,p,q,D⟩:=y e z[e] (H[e]'(by omega)) ab ab
   exact .pure (EO L d N O P j) (.addr l (t.append (aS.JJ j p q))) c
 ·rename_i id dl n d1 r;split at c
  case h_2=>exact c.elim
  rename_i ap W l;split at c
  case h_2=>exact c.elim
  rename_i f ce;cases d:a1 V f with
  |false=>rw[d] at c;exact c.elim
  |true=>
   rw[d] at c;obtain⟨⟨z,e⟩,⟨s,rfl,j⟩,c⟩:=c;simp only at s j c;rw[r] at m;cases m with|kn=>(exact absurd j U)|view u t d2 d3 d4=>
   rename_i A v d5 Y;rw[l] at u;cases u;obtain⟨av,a4,k,_⟩:=B.jk l s t;cases av;obtain⟨X,d0,ad,k⟩:=k;simp only[fJ,Value.slice.injEq,and_true] at ad;obtain⟨rfl,rfl,rfl⟩:=ad;rcases k with⟨J,_⟩|⟨ds,d6,H,J,_,aw,an,S,y⟩
   ·cases J
   cases J;have bs:n+e<z.length:=U;obtain⟨F,p,q,D⟩:=y (n+e) z[n+e] (H[n+e]'(by omega)) ab ab
   have:=EO (w:=w) L d N O P j;rw[ag U,show v+n*f.size+e*f.size=v+(n+e)*f.size by rw[e2];omega] at this;exact .pure this (.addr l (t.append (aS.JJ bs p q))) c
 exact c.elim
def aP.pure {h:c5->Nat->Prop} {w:World}:∀{τ:ai} {i:ac1} {e:τ.den} {g:ac7},τ.pure=true->aP h w τ i e g->g=[]
 |.int _,_,_,_,_,b=>b.1
 |.bool,_,_,_,_,b=>b.1
 |.str,_,_,_,_,b=>b.1
 |.a5 _ _,_,_,_,_,b=>b.1
 |.ptr _ _,_,_,_,_,b=>b.1
 |.nil,_,_,_,_,b=>b.1
 |.st k,_,_,_,c,b=>aP.pure (τ:=k) c b
 |.pr a f,_,_,_,c,b=>by simp only[ai.pure,bc] at c;obtain⟨n,f2,rfl,j,d⟩:=b;rw[aP.pure (τ:=a) c.1 j,aP.pure (τ:=f) c.2 d];rfl
 |.osl _,_,_,_,c,_=>by cases c
 |.optr _,_,_,_,c,_=>by cases c
 |.dB _ _,_,e,_,_,b=>by
  cases e with
  |none=>exact b.1
  |some o=>obtain⟨f,m,l,_,d,_⟩:=b;exact d
 |.c6,_,_,_,c,_=>by cases c
def s2 (d:ai) (e:d.den) (id:Nat) (c:List aW) (a:ai):gu:=
 bif a.pure then .part a.den (λb=>c4 d e c a b) (λb=>(.val a b,[])) else .du (.ref id c) []
def sD (tt:List (TypeId×ai)) (f:List (Nat×aH)) (g:TypeId) (c:ao):gu:=
 match au tt g with
 |none=>.bad
 |some e=>match c with
  |.val (.ptr _ a) (some h)=>bif a1 e a then .du (.val a h) [] else .bad
  |.addr id b=>match au f id with
   |some ⟨d,c⟩=>match dF d b with
    |some a=>bif a1 e a then s2 d c id b a else .bad
    |none=>.bad
   |none=>.bad
  |.ref id b=>match au f id with
   |some ⟨d,c⟩=>match dF d b with
    |some (.optr a)=>bif a1 e a then s2 d c id (b++[.deref]) a else .bad
    |_=>.bad
   |none=>.bad
  |_=>.bad
def E8 (e:au E.tt G=some q) (j:a1 q d=true) (k:o.op=.load G b) (l:a.eval b=.pointer (some ⟨c,h,none⟩)) (f:dL w c h g) (i:g.length=d.size):(execOp a.eval o).run E.P w=.ok (.value (bG d g)) w:=by have:=MS ((E.ok G q e).lay j) f i;simp[execOp,k,l,Instr.loadAt,Instr.sureAddr,this]
def Gf (m:br C st a.tmps w I rt fp) {id:Nat} {k:q.den} (j:au st.h id=some ⟨q,k⟩) (e:aS w q none (rt id) l d v g) (f:(execOp a.eval o).run E.P w=.ok (.value (bG d g)) w) (b:(s2 q k id l d).K Q):Yields E C st a w I rt fp o Q:=by
 unfold s2 at b;cases c:d.pure with
 |true=>
  rw[c] at b;obtain⟨r,n,b⟩:=b;obtain⟨_,p,i,_⟩:=m.jk j n e;have:=i.pure c;subst this;exact .pure f (.val i) b
 |false=>
  rw[c] at b;exact .pure f (.ref j e) b
def Sz (k:br C st a.tmps w I rt fp) (p:o.op=.load G b) (c:(sD E.tt st.h G (aR st.g b)).K Q):Yields E C st a w I rt fp o Q:=by
 have i:=k.aR b;unfold sD at c;split at c
 ·exact c.elim
 rename_i t n;generalize r:a.eval b=O at i;split at c
 ·rename_i N m x j;cases d:a1 t m with
  |false=>rw[d] at c;exact c.elim
  |true=>
   rw[d] at c;rw[j] at i;cases i with|val H=>
   obtain⟨_,y,A,z,rfl,aw,s,D,F⟩:=H;exact .pure (E8 n d p r D s) (.val F) c
 ·rename_i id B j;split at c
  case h_2=>exact c.elim
  rename_i J x f;split at c
  case h_2=>exact c.elim
  rename_i m q;cases d:a1 t m with
  |false=>rw[d] at c;exact c.elim
  |true=>
   rw[d] at c;rw[j] at i;cases i with|addr l e=>
   rw[f] at l;cases l;have:=e.ty;rw[q] at this;cases this;obtain⟨aw,s⟩:=k.MJ f e;exact Gf k f e (E8 n d p r (s _ _ rfl) aw) c
 ·rename_i id B j;split at c
  case h_2=>exact c.elim
  rename_i J x f;split at c
  case h_2=>exact c.elim
  rename_i m q;cases d:a1 t m with
  |false=>rw[d] at c;exact c.elim
  |true=>
   rw[d] at c;rw[j] at i;cases i with|ref l e=>
   rename_i P M L;rw[f] at l;cases l;have:=e.ty;rw[q] at this;cases this;obtain⟨y,A,z,rfl,u,v⟩:=np (k.tree id _ f).1 e;exact Gf k f (e.append (aS.D9 u v)) (E8 n d p r v u) c
 exact c.elim
def sq (tt:List (TypeId×ai)) (g:List (Nat×aH)) (h:TypeId) (k:ao) (c:Nat):gu:=
 match jS tt h with
 |none=>.bad
 |some e=>match k with
  |.val (.ptr i (.st a)) (some l)=>bif a1 e a then match po a l c with
   |some ⟨j,m⟩=>.du (.val (.ptr i j) (some m)) []
   |none=>.bad
   else .bad
  |.ref id b=>match au g id with
   |some ⟨f,_⟩=>match dF f b with
    |some (.optr (.st a))=>bif a1 e a then match dP a c with
     |some (d,_)=>.du (.addr id (b++(.deref::.unst::d))) []
     |none=>.bad
     else .bad
    |_=>.bad
   |none=>.bad
  |.addr id b=>match au g id with
   |some ⟨f,_⟩=>match dF f b with
    |some (.st a)=>bif a1 e a then match dP a c with
     |some (d,_)=>.du (.addr id (b++(.unst::d))) []
     |none=>.bad
     else .bad
    |_=>.bad
   |none=>.bad
  |_=>.bad
def Ez {f:ai} (m:jS E.tt G=some f) (r:a1 f d=true) (u:dP d c=some (l,q)) (s:o.op=.fieldAddr G b c) (v:a.eval b=.pointer (some ⟨h,M,none⟩)):(execOp a.eval o).run E.P w=.ok (.value (.pointer (some ⟨h,M+dj d c,none⟩))) w:=by obtain⟨i,y,j,k⟩:=jS.ok m;obtain⟨g,n,t,e⟩:=EA (ha.lay r k) u;have x:q.size≠0:=(by have:=e.pos;omega);have p:i[c]?=some g:=(by simpa using n);simp[execOp,s,v,Instr.fieldAt,run_underlying j,p,Instr.sureAddr,fieldPlace,e.sizeOf,x,Addr.add_lit,t]
def Rm (H:br C st a.tmps w I rt fp) (y:o.op=.fieldAddr G b c) (d:(sq E.tt st.h G (aR st.g b) c).K Q):Yields E C st a w I rt fp o Q:=by
 have m:=H.aR b;unfold sq at d;split at d
 ·exact d.elim
 rename_i D v;generalize A:a.eval b=am at m;split at d
 ·rename_i U e N r;cases i:a1 D e with
  |false=>rw[i] at d;exact d.elim
  |true=>
   rw[i] at d;simp only[cond_true] at d;split at d
   case h_2=>exact d.elim
   rename_i n Z J;rw[r] at m;cases m with|val X=>
   obtain⟨_,f,j,u,rfl,aw,ad,W,L⟩:=X;obtain⟨t,k⟩:=ED J;obtain⟨M,Y⟩:=EC (τ:=e) L J;have S:=L.len;simp only[ai.size] at S M Y;exact .pure (Ez v i k y A) (.val (τ:=.ptr U n) (x:=some Z) (cs:=[.pointer (some ⟨f,j+dj e c,none⟩)]) ⟨rfl,f,_,_,rfl,aw,by simp;omega,W.drop.take,M⟩) d
 ·rename_i id V r;split at d
  case h_2=>exact d.elim
  rename_i O N q;split at d
  case h_2=>exact d.elim
  rename_i e z;cases i:a1 D e with
  |false=>rw[i] at d;exact d.elim
  |true=>
   rw[i] at d;simp only[cond_true] at d;split at d
   case h_2=>exact d.elim
   rename_i t n k;rw[r] at m;cases m with|ref s p=>
   rw[q] at s;cases s;have:=p.ty;rw[z] at this;cases this;obtain⟨f,j,u,rfl,P,R⟩:=np (H.tree id _ q).1 p;rename_i T;have B:aS w (.optr (.st e)) T [.pointer (some ⟨f,j,none⟩)] (.deref::.unst::t) n (some (f,j+dj e c)) ((u.drop (dj e c)).take n.size):=⟨f,j,u,rfl,P,R,aS.Br (l:=some (f,j)) k⟩;exact .pure (Ez v i k y A) (.addr q (p.append B)) d
 ·rename_i id V r;split at d
  case h_2=>exact d.elim
  rename_i O N q;split at d
  case h_2=>exact d.elim
  rename_i e z;cases i:a1 D e with
  |false=>rw[i] at d;exact d.elim
  |true=>
   rw[i] at d;simp only[cond_true] at d;split at d
   case h_2=>exact d.elim
   rename_i t n k;rw[r] at m;cases m with|addr s p=>
   rw[q] at s;cases s;have:=p.ty;rw[z] at this;cases this;rename_i f j F;have B:aS w (.st e) (some (f,j)) F (.unst::t) n (some (f,j+dj e c)) ((F.drop (dj e c)).take n.size):=aS.Br (l:=some (f,j)) k;exact .pure (Ez v i k y A) (.addr q (p.append B)) d
 exact d.elim
def uJ (
 tt:List (TypeId×ai)) (i:List (Nat×aH)) (h:TypeId) (c:ao) (d:Nat):gu:=
 match jS tt h with
 |none=>.bad
 |some f=>match c with
  |.val (.st a) k=>bif a1 f a then match po a k d with
   |some ⟨b,l⟩=>.du (.val b l) []
   |none=>.bad
   else .bad
  |.ref id e=>match au i id with
   |some ⟨g,c⟩=>match dF g e with
    |some (.st a)=>bif a1 f a then match dP a d with
     |some (j,b)=>s2 g c id (e++(.unst::j)) b
     |none=>.bad
     else .bad
    |_=>.bad
   |none=>.bad
  |_=>.bad
def Jj {k:ai} (s:jS E.tt G=some k) (v:a1 k d=true) (y:dP d c=some (l,q)) (x:o.op=.field G b c) (z:a.eval b=bG (.st d) g) (C:dj d c+q.size<=g.length):(execOp a.eval o).run E.P w=.ok (.value (bG q ((g.drop (dj d c)).take q.size))) w:=by
 obtain⟨m,F,p,r⟩:=jS.ok s;obtain⟨f,t,j,e⟩:=EA (ha.lay v r) y;have D:=e.pos;have u:m[c]?=some f:=(by simpa using t);simp only[hE] at j;have A:a.eval b=.agg g.toArray:=z;have B:(part f.type g.toArray f.offset).run E.P w=.ok (bG q ((g.drop (dj d c)).take q.size)) w:=by
  simp only[part,Sem.run_bind,e.isAgg,Result.andThen_ok,j];cases h:oj q with
  |true=>
   rw[Co h];simp only[if_true,Sem.run_bind,e.sizeOf,Result.andThen_ok,Sem.run_pure];congr 2;apply Array.ext';rw[Array.toList_extract,List.extract_eq_take_drop,lv]
  |false=>
   have n:=FW e h;rw[Cn h,n];have i:dj d c<g.length:=U;have:(g.drop (dj d c)).take 1=[g[dj d c]]:=(by rw[C6 i];rfl);rw[this];simp[i]
 simp[execOp,x,A,Instr.field,run_underlying p,u,asAgg,B]
def Ro (m:br C st a.tmps w I rt fp) (u:o.op=.field G b c) (d:(uJ E.tt st.h G (aR st.g b) c).K Q):Yields E C st a w I rt fp o Q:=by
 have j:=m.aR b;unfold uJ at d;split at d
 ·exact d.elim
 rename_i B s;generalize x:a.eval b=P at j;split at d
 ·rename_i f J l;cases e:a1 B f with
  |false=>rw[e] at d;exact d.elim
  |true=>
   rw[e] at d;simp only[cond_true] at d;split at d
   case h_2=>exact d.elim
   rename_i q R t;rw[l] at j;cases j with|val z=>
   obtain⟨A,i⟩:=ED t;obtain⟨H,O⟩:=EC (τ:=f) z t;have F:=z.len;simp only[ai.size] at F;exact .pure (Jj s e i u x (by simp only at*;omega)) (.val H) d
 ·rename_i id M l;split at d
  case h_2=>exact d.elim
  rename_i L J p;split at d
  case h_2=>exact d.elim
  rename_i f D;cases e:a1 B f with
  |false=>rw[e] at d;exact d.elim
  |true=>
   rw[e] at d;simp only[cond_true] at d;split at d
   case h_2=>exact d.elim
   rename_i A q i;rw[l] at j;cases j with|ref v n=>
   rename_i S y r;rw[p] at v;cases v;have:=n.ty;rw[D] at this;cases this;obtain⟨aw,N⟩:=m.MJ p n;have k:aS w (.st f) y r (.unst::A) q (y.map λk=>(k.1,k.2+dj f c)) ((r.drop (dj f c)).take q.size):=aS.Br i;exact Gf m p (n.append k) (Jj s e i u x (by rw[aw];exact uK i)) d
 exact d.elim
def sN (f:List (Nat×aH)) (b:ao):gu:=
 match b with
 |.val (.ptr h d) b=>.part d.den (λc=>b=some c) (λc=>(.val (.ptr h d) (some c),[]))
 |.ref id a=>match au f id with
  |some ⟨i,_⟩=>match dF i a with
   |some (.optr _)=>.du (.ref id a) []
   |_=>.bad
  |none=>.bad
 |.addr id a=>.du (.addr id a) []
 |.df e g=>.du (.df e g) []
 |_=>.bad
def Ti (r:br C st a.tmps w I rt fp) (l:o.op=.nilCheck b) (c:(sN st.h (aR st.g b)).K Q):Yields E C st a w I rt fp o Q:=by
 have d:=r.aR b;unfold sN at c;generalize m:a.eval b=H at d;split at c
 ·rename_i z n p e;obtain⟨p,rfl,c⟩:=c;rw[e] at d;cases d with|val G=>
  obtain⟨_,f,k,q,rfl,aw,B,D,F⟩:=G;exact .pure (v:=.pointer (some ⟨f,k,none⟩)) (by simp[execOp,l,m,bG]) (.val (τ:=.ptr z n) (x:=some p) (cs:=[.pointer (some ⟨f,k,none⟩)]) ⟨rfl,f,k,q,rfl,aw,B,D,F⟩) c
 ·rename_i id A e;split at c
  case h_2=>exact c.elim
  rename_i J p j;split at c
  case h_2=>exact c.elim
  rename_i n y;rw[e] at d;cases d with|ref s i=>
  rw[j] at s;cases s;have:=i.ty;rw[y] at this;cases this;obtain⟨f,k,q,rfl,L,M⟩:=np (r.tree id _ j).1 i;exact .pure (v:=.pointer (some ⟨f,k,none⟩)) (by simp[execOp,l,m,bG]) (.ref (τ':=.optr n) j i) c
 ·rename_i id A e;rw[e] at d;cases d with|addr j i=>
  exact .pure (by simp[execOp,l,m]) (.addr j i) c
 ·rename_i N O e;rw[e] at d;cases d with|df u t=>
  exact .pure (by simp[execOp,l,m]) (.df u t) c
 exact c.elim
def qi (d:Option ao) (b a:Nat):Prop:=
 match d with
 |none=>a=b
 |some (.val (.int _) c)=>c=(a:Int)
 |some _=>False
def s9 (tt:List (TypeId×ai)) (k:List (Nat×aH)) (j:TypeId) (d:ao) (g f:Option ao):gu:=
 match eX tt j with
 |none=>.bad
 |some h=>match d with
  |.val (.a5 l b) e=>bif a1 h b then
   .part c2 (λa=>qi g 0 a.1/\qi f e.length a.2/\a.1<=a.2/\a.2<=e.length) (λa=>(.val (.a5 l b) ((e.take a.2).drop a.1),[])) else .bad
  |.ref id c=>match au k id with
   |some ⟨i,d⟩=>match dF i c with
    |some (.osl b)=>bif a1 h b then
     .part (List b.den×Nat×Nat) (λa=>c4 i d c (.osl b) a.1/\qi g 0 a.2.1/\qi f a.1.length a.2.2/\a.2.1<=a.2.2/\a.2.2<=a.1.length) (λa=>(.view id c a.2.1 a.2.2,[])) else .bad
    |_=>.bad
   |none=>.bad
  |_=>.bad
def Dz (a:Act) (e:acY) (c b:Nat):Prop:=
 match e with
 |none=>b=c
 |some f=>∃d,a.eval f=.int d b
def Gu (v:eX E.tt G=some q) (x:a1 q d=true) {g e:acY} (y:o.op=.slice G b g e none) (A:a.eval b=.slice r O M) (k:Dz a g 0 h) (f:Dz a e O c) (p:h<=c) (s:c<=M):(execOp a.eval o).run E.P w=.ok (.value (.slice (if M=h then r else r.map (·.add (h*d.size))) (c-h) (M-h))) w:=by
 obtain⟨F,D,_,t,u⟩:=eX.ok v;have z:=(u.lay x).sizeOf w;have al:(0:Int)<=(c:Int)/\(c:Int)<=(M:Int):=⟨U,U⟩;have l:(0:Int)<=(h:Int)/\(h:Int)<=(c:Int):=⟨U,U⟩;have m:(Instr.sliceBounds true O M (g.map a.eval) (e.map a.eval) none).run E.P w=.ok (h,c,M) w:=by
  cases g with
  |none=>
   obtain rfl:h=0:=k;cases e with
   |none=>obtain rfl:c=O:=f;simp[Instr.sliceBounds]
   |some C=>obtain⟨B,i⟩:=f;simp[Instr.sliceBounds,Instr.sliceBound,i,asIntOf,al];intro n;omega
  |some K=>
   obtain⟨H,j⟩:=k;cases e with
   |none=>obtain rfl:c=O:=f;simp[Instr.sliceBounds,Instr.sliceBound,j,asIntOf,l];intro n;omega
   |some C=>
    obtain⟨B,i⟩:=f;have I:¬M<c:=U;have J:¬c<h:=U;simp[Instr.sliceBounds,Instr.sliceBound,i,j,asIntOf,p,s]
 simp[execOp,y,A,Instr.sliceAt,Instr.slice,run_underlying t,m,z]
def tT (i:br C st a.tmps w I rt fp) {e:acY} (b:qi (e.map (aR st.g)) c h):Dz a e c h:=by
 cases e with
 |none=>exact b
 |some f=>
  have:=i.aR f;simp only[fd,qi] at b;split at b
  ·rename_i d;cases d
  ·rename_i k m d;simp only[bF] at d;rw[d] at this;subst b;generalize j:a.eval f=n at this;cases this with|val l=>obtain⟨_,rfl⟩:=l;exact⟨k,j⟩
  exact b.elim
def X2 (f:br C st a.tmps w I rt fp) {R k:acY} (A:o.op=.slice G b R k none) (c:(s9 E.tt st.h G (aR st.g b) (R.map (aR st.g)) (k.map (aR st.g))).K Q):Yields E C st a w I rt fp o Q:=by
 have t:=f.aR b;unfold s9 at c;split at c
 ·exact c.elim
 rename_i V z;generalize F:a.eval b=ds at t;split at c
 ·rename_i a3 e v y;cases i:a1 V e with
  |false=>rw[i] at c;exact c.elim
  |true=>
   rw[i] at c;obtain⟨⟨d,q⟩,⟨l,m,n,p⟩,c⟩:=c;simp only at l m n p c;rw[y] at t;cases t with|val bl=>
   obtain⟨_,L,s,rfl,aw,J,S⟩:=bl;have u:=Gu (w:=w) z i A F (tT f l) (tT f m) n U;have a0:((v.take q).drop d).length=q-d:=(by simp;omega);refine .pure u (.val (τ:=.a5 a3 e) (x:=(v.take q).drop d) (cs:=[_]) ⟨rfl,_,s-d,by rw[a0],U,?_,?_⟩) c
   ·intro M;by_cases am:s=d
    ·omega
    rw[ag am] at M;cases L with
    |none=>have:=J rfl;omega
    |some _=>cases M
   by_cases cv:q=d
   ·left;apply lm;omega
   right;rcases S with rfl|⟨r,j,rfl,ad,T⟩
   ·simp at p;omega
   refine⟨r,j+d*e.size,by rw[ag U];simp[Addr.add_lit],ad,λH W k=>?_⟩;have an:v[d+H]?=some W:=by
    rw[iJ,rx] at k;split at k
    ·exact k
    cases k
   obtain⟨Z,X,ce,Y⟩:=T _ _ an;refine⟨Z,X,?_,Y⟩;rwa[show j+d*e.size+H*e.size=j+(d+H)*e.size by rw[e2];omega]
 ·rename_i id a4 y;split at c
  case h_2=>exact c.elim
  rename_i bs W D;split at c
  case h_2=>exact c.elim
  rename_i e dl;cases i:a1 V e with
  |false=>rw[i] at c;exact c.elim
  |true=>
   rw[i] at c;obtain⟨⟨v,d,q⟩,⟨N,l,m,n,p⟩,c⟩:=c;simp only at N l m n p c;rw[y] at t;cases t with|ref P O=>
   rw[D] at P;cases P;obtain⟨rfl,ci,B,_⟩:=f.jk D N O;obtain⟨L,s,rfl,B⟩:=B;rcases B with⟨rfl,rfl,rfl,_⟩|⟨r,j,co,rfl,_,aw,J,S,T⟩
   ·have ap:q=0:=(by simpa using p);subst ap;have av:d=0:=U;subst av;exact .pure (Gu (w:=w) z i A F (tT f l) (tT f m) (a6 _) (a6 _)) (.kn id a4) c
   have u:=Gu (w:=w) z i A F (tT f l) (tT f m) n U;have:(if s=d then some (⟨r,j,none⟩:Addr) else(some (⟨r,j,none⟩:Addr)).map (·.add (d*e.size)))=some ⟨r,if s=d then j else j+d*e.size,none⟩:=(by split<;>simp[Addr.add_lit]);rw[this] at u;exact .pure u (.view D O n p J) c
 exact c.elim
end
end
section
def he:(i:ai)->ac1->Option i.den
 |.int d,b=>match b with
  |[.int e n]=>if d=e then some n else none
  |_=>none
 |.bool,b=>match b with
  |[.bool c]=>some c
  |_=>none
 |.str,b=>match b with
  |[.string s]=>some s
  |_=>none
 |.a5 _ _,b=>match b with
  |[.slice none 0 0]=>some []
  |_=>none
 |.osl _,b=>match b with
  |[.slice none 0 0]=>some []
  |_=>none
 |.ptr _ _,b=>match b with
  |[.pointer none]=>some none
  |_=>none
 |.st f,b=>he f b
 |.pr a c,b=>match he a (b.take a.size),he c (b.drop a.size) with
  |some g,some h=>some (g,h)
  |_,_=>none
 |.nil,b=>match b with
  |[]=>some ()
  |_=>none
 |.optr _,_=>none
 |.c6,_=>none
 |.mp _,_=>none
 |.dB _ _,_=>none
def oa {M:c5->Nat->Prop} {w:World}:∀{τ:ai} {d:ac1} {c:τ.den},he τ d=some c->aP M w τ d c []
 |.int j,d,c,b=>by
  simp only[he] at b;split at b
  ·split at b
   ·rename_i f;cases b;subst f;exact⟨rfl,rfl⟩
   cases b
  cases b
 |.bool,d,c,b=>by simp only[he] at b;split at b<;>cases b;exact⟨rfl,rfl⟩
 |.str,d,c,b=>by simp only[he] at b;split at b<;>cases b;exact⟨rfl,rfl⟩
 |.a5 _ _,d,c,b=>by simp only[he] at b;split at b<;>cases b;exact⟨rfl,none,0,rfl,a6 _,λ_=>rfl,.inl rfl⟩
 |.osl _,d,c,b=>by simp only[he] at b;split at b<;>cases b;exact⟨none,0,rfl,.inl ⟨rfl,rfl,rfl,rfl⟩⟩
 |.ptr _ _,d,c,b=>by simp only[he] at b;split at b<;>cases b;exact⟨rfl,rfl⟩
 |.st i,d,c,b=>oa (τ:=i) (by simp only[he] at b;exact b)
 |.pr a e,d,c,b=>by
  simp only[he] at b;split at b
  ·rename_i c k g h;cases b;exact⟨[],[],rfl,oa (τ:=a) g,oa (τ:=e) h⟩
  cases b
 |.nil,d,c,b=>by simp only[he] at b;split at b<;>cases b;exact⟨rfl,rfl⟩
 |.optr _,d,c,b=>by simp only[he] at b;cases b
 |.c6,d,c,b=>by simp only[he] at b;cases b
 |.mp _,d,c,b=>by simp only[he] at b;cases b
 |.dB _ _,d,c,b=>by simp only[he] at b;cases b
def Jk (d:Nat):∀(e:ac1) (b:Nat) (c:acZ),let h:=(e.zipIdx b).foldl (λc (j:Value×Nat)=>c.setIfInBounds (d+j.2) j.1) c
 h.size=c.size/\(∀a,a<d+b\/d+b+e.length<=a->h[a]?=c[a]?)/\(d+b+e.length<=c.size->∀a f,e[a]?=some f->h[d+b+a]?=some f)
 |[],b,c=>⟨rfl,λ_ _=>rfl,λ_ a f k=>by simp at k⟩
 |x::e,b,c=>by
  obtain⟨l,i,m⟩:=Jk d e (b+1) (c.setIfInBounds (d+b) x);simp only[List.zipIdx_cons,List.foldl_cons];refine⟨by rw[l];simp,λa n=>?_,λo a f g=>?_⟩
  ·simp only[hX] at n;rw[i a U,CY U]
  simp only[hX] at o;cases a with
  |zero=>
   simp only[iI,bF] at g;subst g;rw[kv,i _ U];have:d+b<c.size:=U;simp[this]
  |succ a=>
   simp only[oQ] at g;have:=m (by simp;omega) a f g;rwa[(U:d+(b+1)+a=d+b+(a+1))] at this
def xh (n:Nat->Option c2):∀(m:List (Nat×Value)) (d:acZ),(∀a∈m,∃f c,n a.1=some (f,c)/\a.2.cells.size=c/\f+c<=d.size)->(m.Pairwise λa j=>∀o c h k,n a.1=some (o,c)->n j.1=some (h,k)->o+c<=h\/h+k<=o)->∃j,Instr.fill n d m=some j/\j.size=d.size/\(∀b,(∀a∈m,∀o c,n a.1=some (o,c)->b<o\/o+c<=b)->j[b]?=d[b]?)/\(∀a∈m,∀o c,n a.1=some (o,c)->∀b e,a.2.cells[b]?=some e->j[o+b]?=some e)
 |[],d,_,_=>⟨d,rfl,rfl,λ_ _=>rfl,λa g=>by cases g⟩
 |(i,e)::m,d,w,u=>by
  obtain⟨f,c,p,I,N⟩:=w (i,e) ab;simp only at p I;rw[mT] at u;have H:e.cells.zipIdx.foldl (λl (a:Value×Nat)=>l.setIfInBounds (f+a.2) a.1) d=(e.cells.toList.zipIdx 0).foldl (λl (a:Value×Nat)=>l.setIfInBounds (f+a.2) a.1) d:=(by rw[<-Array.foldl_toList,Array.toList_zipIdx]);obtain⟨q,f2,r⟩:=Jk f e.cells.toList 0 d;rw[<-H] at q f2 r;simp only[Array.length_toList] at f2 r;generalize F:e.cells.zipIdx.foldl (λl (a:Value×Nat)=>l.setIfInBounds (f+a.2) a.1) d=v at q f2 r;obtain⟨j,J,K,y,aK⟩:=xh n m v (λa g=>by
   obtain⟨h,k,B,C,D⟩:=w a (e1 _ g);exact⟨h,k,B,C,by rw[q];exact D⟩) u.2
  refine⟨j,?_,by rw[K,q],λb x=>?_,λa g h k s b z t=>?_⟩
  ·have E:(decide (e.cells.size≠c)||decide (f+e.cells.size>d.size))=false:=(by simp;omega);simp only[Instr.fill,p,E];rw[show(e.cells.zipIdx.foldl (λl L=>match L with|(A,b)=>l.setIfInBounds (f+b) A) d)=v from F];simpa using J
  ·rw[y b (λa g=>x a (e1 _ g)),f2 b (by have:=x (i,e) ab f c p;omega)]
  rcases dg.1 g with rfl|g
  ·simp only at s t;rw[p] at s;cases s;have M:b<e.cells.size:=(lY.1 t).1;rw[y (f+b) (λa g h k G=>by
    have:=u.1 a g f c h k p G;omega)]
   exact r U b z (by simpa using t)
  exact aK a g h k s b z t
section
variable {E:dR} {C:dn} {st:aO} {a:Act} {w:World} {I:Nat->Prop} {rt:Nat->ac1} {fp:Nat->ac7} {o:Oper} {Q:ao->List (Nat×aH)->Prop}
def dL.alloc {w:World} {c:acZ} {e:TypeId} {o:Nat} {d:ac1} (f:∀a b,d[a]?=some b->c[o+a]?=some b):dL (w.alloc (.cells c e)) w.heap.size o d:=λa b g=>by rw[World.cell?_alloc_new];exact f a b g
def hB.alloc {w:World} {a:acZ} {c:TypeId} {d b:Nat} (e:b<=a.size):hB (w.alloc (.cells a c)) w.heap.size d b:=λg _ f=>by rw[World.cell?_alloc_new,World.frozen?_alloc_new];exact⟨by simp;omega,rfl⟩
def Yields.new {d:Nat} {t:aH} {e:Value} {cs:ac1} {f:ac7} {cells:acZ} {T:TypeId} (l:au st.h d=none) (g:br C st a.tmps w I rt fp) (p:(execOp a.eval o).run E.P w=.ok (.value e) (w.alloc (.cells cells T))) (r:e=bG t.1 cs) (q:aP (ba I C.B) (w.alloc (.cells cells T)) t.1 cs t.2 f) (j:∀c∈f,c=w.heap.size) (m:f.Nodup) (n:Q (.ref d []) [(d,t)]):Yields E C st a w I rt fp o Q:=by
 refine⟨e,_,I,λ_=>cs,λ_=>f,.ref d [],[(d,t)],p,.alloc w _,λ_ b=>b,λ_ b=>.inl b,.one l q m (λc i=>?_),?_,n⟩
 ·rw[j c i];exact⟨a6 _,ab,λb=>by have:=g.ib _ (.inl b);omega⟩
 rw[r];have k:au ([(d,t)]++st.h) d=some t:=(by rw[yS,bU,aj rfl]);refine .ref (t:=t) (τ':=t.1) (loc:=none) k ?_;have:dz [(d,t)] (λ_=>cs) rt d=cs:=(by simp[dz,bU]);rw[this];exact aS.here
def sH (tt:List (TypeId×ai)) (g:List (Nat×ai)) (h:List (Nat×aH)) (b:Nat) (f:TypeId) (e d:ao):gu:=
 match eX tt f,au g b,au h b with
 |some i,some (.osl c),none=>match ko c,e,d with
  |some j,.val (.int _) e,.val (.int _) d=>bif a1 i c&&Nat.ble c.size 2000 then
   .part c2 (λa=>e=(a.1:Int)/\d=(a.2:Int)/\a.1<=a.2/\a.2<=e7) (λa=>(.ref b [],[(b,⟨.osl c,List.replicate a.1 j⟩)])) else .bad
  |_,_,_=>.bad
 |_,_,_=>.bad
def SK (a:acZ) (e c b:Nat) (g:Value) (_hz:0<a.size) (f:a[b]?=some g) (j:c<e):(madeCells a (e*a.size))[c*a.size+b]?=some g:=by have d:b<a.size:=(lY.1 f).1;have h:(c+1)*a.size<=e*a.size:=gE _ j;rw[e2,gN] at h;have i:(c*a.size+b) %a.size=b:=(by rw[Nat.add_comm,Nat.add_mul_mod_self_right,Nat.mod_eq_of_lt d]);simp only[madeCells,Array.getElem?_map,Array.getElem?_range];rw[aj U];simp only[fd,i];rw[<-f,getElem!_pos a b d,vB d]
def SM (t:br C st a.tmps w I rt fp) (am:o.op=.makeSlice G i b) (e:(sH E.tt j st.h c G (aR st.g i) (aR st.g b)).K Q):Yields E C st a w I rt fp o Q:=by
 have v:=t.aR i;have u:=t.aR b;unfold sH at e;split at e
 case h_2=>exact e.elim
 rename_i co A X ds Z;split at e
 case h_2=>exact e.elim
 rename_i dl bl d3 a4 d2 av O N;cases l:(a1 co A&&Nat.ble A.size 2000) with
 |false=>rw[l] at e;exact e.elim
 |true=>
  rw[l] at e;simp only[bc] at l;obtain⟨⟨q,k⟩,⟨rfl,rfl,H,r⟩,e⟩:=e;simp only at H r e;have d0:=eM l.2;rw[O] at v;rw[N] at u;generalize ap:a.eval i=d7 at v;generalize an:a.eval b=d6 at u;cases v with|val ce=>cases u with|val ci=>
  obtain⟨_,rfl⟩:=ce;obtain⟨_,rfl⟩:=ci;obtain⟨a0,D,_,V,W⟩:=eX.ok X;have s:=W.lay l.1;obtain⟨p,n,aw,bs,d4,M⟩:=tk s av;obtain⟨d1,_,z,_⟩:=s.info;have F:=z.info;rw[aw] at F;cases F;have m:n.cells.size=A.size:=(by have:=(M (ba I C.B) w).len;simpa using this);have Y:(p.bytes:Int)*(k:Int)<=281474976710656:=(by have:p.bytes*k<=48000*e7:=iu (by have:=z.bytes;omega) r;have S:((p.bytes*k:Nat):Int)<=281474976710656:=(by unfold e7 at this;omega);rwa[jB] at S);have x:=run_make (P:=E.P) w G D p n V aw bs bl a4 (q:Int) (k:Int) U U Y (by unfold e7 at r;omega);simp only[bY,z.size] at x;rw[<-m] at x;refine .new (d:=c) (cells:=madeCells n.cells (k*n.cells.size)) (T:=D) (cs:=[.slice (some ⟨w.heap.size,0,none⟩) q k]) (f:=[w.heap.size]) Z t ?_ rfl ?_ ab ab e
  ·simp[execOp,am,ap,an,bG,x]
  refine⟨some ⟨w.heap.size,0,none⟩,k,ab,.inr ⟨w.heap.size,0,List.replicate q [],rfl,ab,ab,by simpa using H,hB.alloc (by rw[size_madeCells,m];omega),λa3 cv R y J=>?_⟩⟩;have L:a3<q:=(by have:=(ec.1 y).1;simpa using this);obtain rfl:dl=cv:=(by rw[lr,aj L] at y;exact ee y);obtain rfl:[]=R:=(by rw[lr,aj L] at J;exact ee J);refine⟨n.cells.toList,by simpa using m,dL.alloc (λa0 d5 ad=>?_),M _ _⟩;rw[hE,<-m];exact SK _ _ _ _ _ (by rw[m];exact s.pos) (by simpa using ad) U
def tK (tt:List (TypeId×ai)) (d:List (Nat×ai)) (e:List (Nat×aH)) (a:Nat) (c:TypeId):gu:=
 match au tt c,au d a,au e a with
 |some f,some b,none=>match ko b with
  |some g=>bif a1 f b then .du (.ref a []) [(a,⟨.optr b,g⟩)] else .bad
  |none=>.bad
 |_,_,_=>.bad
def Yields.box {g:q.den} {cs:ac1} (r:au st.h c=none) (i:br C st a.tmps w I rt fp) (_hT:dC E.P q G) (u:(execOp a.eval o).run E.P w=.ok (.value (.pointer (some ⟨w.heap.size,0,none⟩))) (w.alloc (.cells cs.toArray G))) (v:∀l,(∀e b,ba I C.B e b->bN w l b)->aP (ba I C.B) l q cs g []) (s:Q (.ref c []) [(c,⟨.optr q,g⟩)]):Yields E C st a w I rt fp o Q:=by have m:∀e b,ba I C.B e b->bN w (w.alloc (.cells cs.toArray G)) b:=λe b n=>.of_heap ((gq.alloc w _).heap b (i.ib b (lM n)));have k:=v _ m;have j:=k.len;refine .new (d:=c) (t:=⟨.optr q,g⟩) (cs:=[.pointer (some ⟨w.heap.size,0,none⟩)]) (f:=[w.heap.size]) r i u rfl ⟨w.heap.size,0,[],cs,rfl,rfl,j,dL.alloc (λx y p=>by simpa using p),hB.alloc (by simp[j]),k⟩ ab ab s
def O1 (g:br C st a.tmps w I rt fp) (l:o.op=.alloc G) (b:(tK E.tt j st.h c G).K Q):Yields E C st a w I rt fp o Q:=by
 unfold tK at b;split at b
 case h_2=>exact b.elim
 rename_i f q i s k;split at b
 case h_2=>exact b.elim
 rename_i x m;cases d:a1 f q with
 |false=>rw[d] at b;exact b.elim
 |true=>
  rw[d] at b;have e:=(E.ok G f i).lay d;obtain⟨t,r,aw,n,u,p⟩:=tk e m;refine .box (cs:=r.cells.toList) k g e ?_ (λv _=>p _ _) b;simp[execOp,l,Instr.alloc,zeroValue,typeInfo,aw,n,newVar,newRow]
def v9 (tt:List (TypeId×ai)) (e:List (Nat×aH)) (a:Nat) (d:TypeId) (b:ao):gu:=
 match au tt d,au e a with
 |some f,none=>match b with
  |.val c b=>bif a1 f c then .du (.ref a []) [(a,⟨.optr c,b⟩)] else .bad
  |_=>.bad
 |_,_=>.bad
def Py (j:br C st a.tmps w I rt fp) (t:o.op=.box G b) (d:(v9 E.tt st.h c G (aR st.g b)).K Q):Yields E C st a w I rt fp o Q:=by
 have f:=j.aR b;unfold v9 at d;split at d
 case h_2=>exact d.elim
 rename_i l r s;split at d
 case h_2=>exact d.elim
 rename_i x A p;cases e:a1 l x with
 |false=>rw[e] at d;exact d.elim
 |true=>
  rw[e] at d;rw[p] at f;generalize u:a.eval b=y at f;cases f with|val i=>
  rename_i m;have k:=(E.ok G l r).lay e;refine .box (cs:=m) s j k ?_ (λz q=>i.mono (λv n e=>⟨e,q v n e⟩) ab) d;simp[execOp,t,u,Instr.box,newVar,newRow,nv k i.len i.one]
def coe (a:ai) (b:ao):Option a.den:=
 match b with
 |.val d b=>if h:d=a then some (h▸b) else none
 |.bQ c=>he a c.cells.toList
 |_=>none
def wc (a:ai):List ao->Option (List a.den)
 |[]=>some []
 |x::c=>match coe a x,wc a c with
  |some d,some b=>some (d::b)
  |_,_=>none
def DG (i:dC E.P d G) {e:Value} (c:bC f w y rt fp R e) {g:d.den} (a:coe d R=some g):aP f w d e.cells.toList g []:=by
 unfold coe at a;split at a
 ·rename_i k j;split at a
  ·rename_i h;subst h;cases a;cases c with|val b=>
   rw[nv i b.len b.one];exact b
  cases a
 ·cases c;exact oa a
 cases a
def s6:List (Nat×Operand)->Nat->Bool
 |[],_=>true
 |q::b,a=>Nat.beq q.1 a&&s6 b (a+1)
def tU (tt:List (TypeId×ai)) (g:List (Nat×ai)) (i:List (Nat×aH)) (h:Operand->ao) (b:Nat) (f:TypeId) (d:Nat) (c:List (Nat×Operand)):gu:=
 match eX tt f,au i b with
 |some e,none=>
  let a:=match au g b with|some (.osl a)=>a|_=>e
  bif a1 e a&&Nat.ble a.size 2000&&Nat.ble d 1000&&s6 c 0&&Nat.beq c.length d then
   match wc a (c.map λj=>h j.2) with
   |some k=>.du (.ref b []) [(b,⟨.osl a,k⟩)]
   |none=>.bad
  else .bad
 |_,_=>.bad
def Ir {f:ai}:∀{e:List ao} {d:List f.den},wc f e=some d->d.length=e.length/\∀(b:Nat) (c:f.den),d[b]?=some c->∃y:ao,e[b]?=some y/\coe f y=some c
 |[],d,a=>by cases a;exact⟨rfl,λb c a=>by simp at a⟩
 |y::e,d,a=>by
  simp only[wc] at a;split at a
  ·rename_i m l k j;cases a;obtain⟨h,i⟩:=Ir j;refine⟨by simp[h],λb c g=>?_⟩;cases b with
   |zero=>simp only[iI,bF] at g;subst g;exact⟨y,rfl,k⟩
   |succ b=>simpa using i b c (by simpa using g)
  cases a
def pJ:∀{f:List (Nat×Operand)} {e:Nat},s6 f e=true->∀(a:Nat) (c:Nat×Operand),f[a]?=some c->c.1=e+a
 |[],_,_,a,c,b=>by simp at b
 |x::f,e,b,a,c,d=>by
  simp only[s6,bc] at b;cases a with
  |zero=>simp only[iI,bF] at d;subst d;exact ep b.1
  |succ a=>have:=pJ b.2 a c (by simpa using d);omega
def PC (H:br C st a.tmps w I rt fp) {i:Array (Nat×Operand)} (d5:o.op=.buildSlice G c i) (k:(tU E.tt j st.h (aR st.g) M G c i.toList).K Q):Yields E C st a w I rt fp o Q:=by
 unfold tU at k;split at k
 case h_2=>exact k.elim
 rename_i a0 dl ds;generalize fT:(match au j M with|some (.osl e)=>e|_=>a0)=e at k;simp only at k;cases p:(a1 a0 e&&Nat.ble e.size 2000&&Nat.ble c 1000&&s6 i.toList 0&&Nat.beq i.toList.length c) with
 |false=>rw[p] at k;exact k.elim
 |true=>
  rw[p] at k;simp only[bc] at p;obtain⟨⟨⟨⟨a4,A⟩,D⟩,x⟩,R⟩:=p;have A:=eM A;have D:=eM D;have R:i.toList.length=c:=ep R;simp only[cond_true] at k;split at k
  case h_2=>exact k.elim
  rename_i m ek;obtain⟨am,N,_,co,cv⟩:=eX.ok dl;have u:=cv.lay a4;obtain⟨J,fn,an,_⟩:=u.info;have fz:=u.pos;obtain⟨bl,bs⟩:=Ir ek;simp only[fK] at bl;have Z:m.length=c:=U;have fs:c*e.size<=16777216:=(by have:c*e.size<=1000*2000:=iu D A;omega);have S:∀(b:Nat) (l:Nat×Operand),i.toList[b]?=some l->∃r:e.den,m[b]?=some r/\aP (ba I C.B) w e (a.eval l.2).cells.toList r []:=(by intro b l q;have d3:b<m.length:=(by have:=(ec.1 q).1;omega);obtain⟨f9,al,y⟩:=bs b m[b] ab;rw[eT,q] at al;simp only[fd,bF] at al;subst al;exact⟨m[b],ab,DG u (H.aR l.2) y⟩);obtain⟨ad,d0,d1⟩:∃a3:acZ,(c*e.size=0->a3=#[])/\(c*e.size≠0->∃s,(zeroValue N).run E.P w=.ok s w/\a3=s.cells):=by
   by_cases n:c*e.size=0
   ·exact⟨#[],λ_=>rfl,λk=>absurd n k⟩
   obtain⟨s,_,em⟩:=dC.EL u;exact⟨s.cells,λk=>absurd k n,λ_=>⟨s,by simp[zeroValue,typeInfo,an.info,em J an.info],rfl⟩⟩
  obtain⟨ap,av,eq,f5,aK⟩:=xh (λJ=>some (J*e.size,e.size)) (i.toList.map λl=>(l.1,a.eval l.2)) ((Array.range (c*e.size)).map (ad[· %ad.size]!)) (by
   intro l d7;obtain⟨f4,d6,rfl⟩:=bR.1 d7;obtain⟨b,q,rfl⟩:=gD.1 d6;have v:i.toList[b]?=some i.toList[b]:=ab;obtain⟨r,_,z⟩:=S b _ v;have F:=pJ x b _ v;have:(b+1)*e.size<=c*e.size:=gE _ U;rw[e2,gN] at this;refine⟨_,_,rfl,by have:=z.len;simpa using this,?_⟩;simp only[Array.size_map,Array.size_range];rw[F,hE];exact this) (by
   rw[ga];intro b L q d4 d3 f1 f6 f3 f7 al y;simp only[List.getElem_map,bF,fe] at al y;simp only[fK] at q d4;have ce:=pJ x b i.toList[b] ab;have f2:=pJ x L i.toList[L] ab;obtain⟨rfl,rfl⟩:=al;obtain⟨rfl,rfl⟩:=y;left;rw[ce,f2];have:(0+b+1)*e.size<=(0+L)*e.size:=gE _ U;rw[e2,gN] at this;exact this)
  have d8:ap.size=c*e.size:=(by rw[eq];simp);refine .new (d:=M) (t:=⟨.osl e,m⟩) (cells:=ap) (T:=N) (cs:=[.slice (some ⟨w.heap.size,0,none⟩) c c]) (f:=[w.heap.size]) ds H ?_ rfl ?_ ab ab k
  ·have d9:=u.sizeOf w;have ft:¬(16777216<c*e.size):=U;have W:(Array.map (λr=>(r.fst,a.eval r.snd)) i).toList=i.toList.map λl=>(l.1,a.eval l.2):=ab;simp only[execOp,d5,Instr.buildSlice,Sem.run_bind,run_underlying co,Result.andThen_ok,d9];rw[ag U];by_cases n:c*e.size=0
   ·rw[aj n];obtain rfl:=d0 n;rw[W];simp only[Sem.run_bind,Sem.run_pure,Result.andThen_ok,av,newRow,newObj];rfl
   rw[ag n];obtain⟨s,el,rfl⟩:=d1 n;rw[W];simp only[Sem.run_bind,Sem.run_pure,Result.andThen_ok,el,av,newRow,newObj];rfl
  refine⟨some ⟨w.heap.size,0,none⟩,c,by rw[Z],.inr ⟨w.heap.size,0,List.replicate c [],rfl,ab,by simp[Z],(by show m.length<=c;omega),hB.alloc (by rw[d8];omega),λb r ci z V=>?_⟩⟩;have q:b<c:=(by have:b<m.length:=(ec.1 z).1;omega);obtain rfl:[]=ci:=(by rw[lr,aj q] at V;exact ee V);have v:i.toList[b]?=some (i.toList[b]'(by omega)):=by simp
  obtain⟨f8,Y,X⟩:=S b _ v;rw[z] at Y;obtain rfl:=ee Y;refine⟨_,X.len,dL.alloc (λam ex d2=>?_),X.mono (λf0 O p=>⟨p,.of_heap ((gq.alloc w _).heap O (H.ib O (lM p)))⟩) ab⟩;have:=aK (i.toList[b].1,a.eval i.toList[b].2) (bR.2 ⟨i.toList[b],bD _,rfl⟩) _ _ rfl am ex (by simpa using d2);have F:=pJ x b _ v;rw[F,hE] at this;simpa using this
end
end
section
def kj (a:List (Nat×Operand)) (b:Nat):acY:=au a b
def oq (
 g:Operand->ao) (e:List (Nat×Operand)):ai->Nat->Option aH
 |.pr a h,d=>
  match(match kj e d with
   |none=>match ko a with
    |some j=>some (⟨a,j⟩:aH)
    |none=>none
   |some c=>match g c with
    |.val f b=>bif a1 a f then some ⟨f,b⟩ else none
    |.bQ i=>match he a i.cells.toList with
     |some b=>some ⟨a,b⟩
     |none=>none
    |_=>none),oq g e h (d+1) with
  |some c,some b=>some ⟨.pr c.1 b.1,(c.2,b.2)⟩
  |_,_=>none
 |.nil,_=>some ⟨.nil,()⟩
 |_,_=>none
def kF:List (Nat×Operand)->Nat->Bool
 |[],_=>true
 |q::b,a=>Nat.ble a q.1&&kF b (q.1+1)
def eP:ai->Nat
 |.pr _ a=>eP a+1
 |_=>0
def EP:∀{e:List (Nat×Operand)} {d:Nat},kF e d=true->∀b∈e,d<=b.1
 |[],_,_,b,a=>by cases a
 |x::e,d,a,b,c=>by
  simp only[kF,bc] at a;rcases dg.1 c with rfl|c
  ·exact eM a.1
  have:=EP a.2 b c;have:=eM a.1;omega
def ER:∀{b:List (Nat×Operand)} {d:Nat},kF b d=true->b.Pairwise λc f=>c.1<f.1
 |[],_,_=>List.Pairwise.nil
 |x::b,d,a=>by simp only[kF,bc] at a;exact List.Pairwise.cons (λc e=>by have:=EP a.2 c e;omega) (ER a.2)
def xB {e:Type}:∀{d:List (Nat×e)} {b:Nat} {c:e},au d b=some c->(b,c)∈d
 |[],_,_,a=>by cases a
 |(g,v0)::r,b,c,a=>by
  rw[bU] at a;split at a
  ·rename_i f;subst f;cases a;simp
  exact e1 _ (xB a)
def E7 {g:Type}:∀{e:List (Nat×g)} {d:Nat},au e d=none->∀c∈e,c.1≠d
 |[],_,_,c,a=>by cases a
 |(h,v0)::r,d,b,c,a=>by
  rw[bU] at b;split at b
  ·cases b
  rename_i f;rcases dg.1 a with rfl|a
  ·exact f
  exact E7 b c a
def pC {j:Program}:∀{u:ai} {l:List Field} {e:Nat} {h:ac1},ha j u l e h->∀d,d<eP u->∃f g,dP u d=some (f,g)
 |.pr a i,k::n,e,h,c,0,_=>⟨_,_,rfl⟩
 |.pr a i,k::n,e,h,c,d+1,b=>by obtain⟨f,g,m⟩:=pC (u:=i) c.2.2.2.2 d (by simp only[eP] at b;omega);exact⟨.snd::f,g,by simp[dP,m]⟩
 |.pr _ _,[],_,_,c,_,_=>c.elim
 |.int _,_,_,_,_,_,b=>by simp[eP] at b
 |.bool,_,_,_,_,_,b=>by simp[eP] at b
 |.str,_,_,_,_,_,b=>by simp[eP] at b
 |.a5 _ _,_,_,_,_,_,b=>by simp[eP] at b
 |.osl _,_,_,_,_,_,b=>by simp[eP] at b
 |.ptr _ _,_,_,_,_,_,b=>by simp[eP] at b
 |.optr _,_,_,_,_,_,b=>by simp[eP] at b
 |.st _,_,_,_,_,_,b=>by simp[eP] at b
 |.nil,_,_,_,_,_,b=>by simp[eP] at b
 |.c6,_,_,_,_,_,b=>by simp[eP] at b
def sr:∀{u:ai} {e d:Nat} {s s':List aW} {t t':ai},dP u e=some (s,t)->dP u d=some (s',t')->e<d->dj u e+t.size<=dj u d
 |.pr a f,0,d+1,s,s',t,t',b,c,_=>by simp only[dP,bF,fe] at b;obtain⟨_,rfl⟩:=b;simp[dj]
 |.pr a f,e+1,d+1,s,s',t,t',b,c,k=>by
  simp only[dP] at b c;cases g:dP f e with
  |none=>rw[g] at b;cases b
  |some i=>
   cases h:dP f d with
   |none=>rw[h] at c;cases c
   |some j=>
    rw[g] at b;rw[h] at c;simp only[bF,fe] at b c;obtain⟨_,rfl⟩:=b;obtain⟨_,rfl⟩:=c;have:=sr (u:=f) (s:=i.1) (t:=i.2) (s':=j.1) (t':=j.2) g h U;simp only[dj];omega
 |.int _,_,_,_,_,_,_,b,_,_=>by cases b
 |.bool,_,_,_,_,_,_,b,_,_=>by cases b
 |.str,_,_,_,_,_,_,b,_,_=>by cases b
 |.a5 _ _,_,_,_,_,_,_,b,_,_=>by cases b
 |.osl _,_,_,_,_,_,_,b,_,_=>by cases b
 |.ptr _ _,_,_,_,_,_,_,b,_,_=>by cases b
 |.optr _,_,_,_,_,_,_,b,_,_=>by cases b
 |.st _,_,_,_,_,_,_,b,_,_=>by cases b
 |.nil,_,_,_,_,_,_,b,_,_=>by cases b
 |.c6,_,_,_,_,_,_,b,_,_=>by cases b
def EB:∀{u:ai} {c:Nat} {s:List aW} {t:ai},dP u c=some (s,t)->c<eP u
 |.pr a d,0,_,_,_=>by simp[eP]
 |.pr a d,c+1,s,t,b=>by
  simp only[dP] at b;split at b
  ·rename_i e f;have:=EB (u:=d) (s:=e.1) (t:=e.2) f;simp only[eP];omega
  cases b
 |.int _,_,_,_,b=>by cases b
 |.bool,_,_,_,b=>by cases b
 |.str,_,_,_,b=>by cases b
 |.a5 _ _,_,_,_,b=>by cases b
 |.osl _,_,_,_,b=>by cases b
 |.ptr _ _,_,_,_,b=>by cases b
 |.optr _,_,_,_,b=>by cases b
 |.st _,_,_,_,b=>by cases b
 |.nil,_,_,_,b=>by cases b
 |.c6,_,_,_,b=>by cases b
def EQ:∀{d:List (Nat×Operand)} {e:Nat} {b:Nat×Operand},kF d e=true->b∈d->kj d b.1=some b.2
 |[],_,_,_,a=>by cases a
 |x::d,e,b,a,c=>by
  simp only[kF,bc] at a;obtain⟨f,g⟩:=x;unfold kj;rw[bU];rcases dg.1 c with rfl|c
  ·rw[aj rfl]
  have:=EP a.2 b c;simp only at this;rw[ag U];exact EQ a.2 c
section
variable {E:dR} {C:dn} {st:aO} {a:Act} {w:World} {I:Nat->Prop} {rt:Nat->ac1} {fp:Nat->ac7} {o:Oper} {Q:ao->List (Nat×aH)->Prop}
def v8 (tt:List (TypeId×ai)) (e:Operand->ao) (d:TypeId) (a:List (Nat×Operand)):gu:=
 match jS tt d with
 |none=>.bad
 |some c=>bif kF a 0&&a.all (λf=>Nat.blt f.1 (eP c)) then match oq e a c 0 with
  |some b=>.du (.val (.st b.1) b.2) []
  |none=>.bad
  else .bad
def Kq {G:Program} {k:c5->Nat->Prop} {b:List (Nat×aH)} {z:Operand->ao} {j:Operand->Value} (C:∀e,bC k w b rt fp (z e) (j e)) {parts:List (Nat×Operand)} {cells:ac1}:∀{u:ai} {n:Nat} {H:List Field} {off:Nat} {zs:ac1} {i:aH},ha G u H off zs->oq z parts u n=some i->cells.length=off+u.size->(∀d y f,dP u d=some (y,f)->(∀e,kj parts (n+d)=some e->(j e).cells.size=f.size/\(cells.drop (off+dj u d)).take f.size=(j e).cells.toList)/\(kj parts (n+d)=none->(cells.drop (off+dj u d)).take f.size=(zs.drop (dj u d)).take f.size))->aP k w i.1 (cells.drop off) i.2 []/\i.1.size=u.size
 |.pr a o,n,T::ad,off,zs,i,B,h,t,r=>by
  simp only[oq] at h;split at h
  case h_2=>cases h
  rename_i e an c M;cases h;obtain⟨V,A,W,⟨X,ap,aw,P,Q⟩,I⟩:=B;have s:=r 0 _ a rfl;simp only[kv,dj,kS] at s;have q:aP k w e.1 ((cells.drop off).take a.size) e.2 []/\e.1.size=a.size:=by
   split at c
   ·rename_i v;split at c
    ·rename_i av O;cases c;obtain⟨Y,a0,E,F,_,aK⟩:=tk A O;rw[aw] at E;cases E;rw[P] at F;cases F;rw[s.2 v,Q];exact⟨aK k w,rfl⟩
    cases c
   rename_i m v;have g:=C m;obtain⟨Z,D⟩:=s.1 m v;split at c
   ·rename_i f S p;cases l:a1 a f with
    |false=>rw[l] at c;cases c
    |true=>
     rw[l] at c;cases c;rw[p] at g;rw[D];generalize L:j m=R at g;cases g with|val x=>
     rw[nv (A.lay l) x.len x.one];exact⟨x,(a1.size l).symm⟩
   ·rename_i R p;split at c
    ·rename_i S N;cases c;rw[p] at g;rw[D];generalize L:j m=am at g;cases g;exact⟨oa N,rfl⟩
    cases c
   cases c
  have J:=Kq C (parts:=parts) (cells:=cells) (u:=o) (n:=n+1) (off:=off+a.size) (zs:=zs.drop a.size) I M (by rw[t];simp only[ai.size];omega) (by
   intro d y f K;have:=r (d+1) (.snd::y) f (by simp[dP,K]);simp only[dj] at this;rw[(U:n+(d+1)=n+1+d),(U:off+(a.size+dj o d)=off+a.size+dj o d)] at this;rw[nN];exact this)
  refine⟨⟨[],[],rfl,?_,?_⟩,by simp only[ai.size];omega⟩
  ·rw[q.2];exact q.1
  rw[q.2,nN];exact J.1
 |.nil,n,[],off,zs,i,B,h,t,r=>by cases h;exact⟨⟨rfl,by rw[List.drop_eq_nil_iff];simp only[ai.size] at t;omega⟩,rfl⟩
 |.pr _ _,_,[],_,_,_,b,_,_,_=>b.elim
 |.nil,_,_::_,_,_,_,b,_,_,_=>b.elim
 |.int _,_,_,_,_,_,b,_,_,_=>by cases b
 |.bool,_,_,_,_,_,b,_,_,_=>by cases b
 |.str,_,_,_,_,_,b,_,_,_=>by cases b
 |.a5 _ _,_,_,_,_,_,b,_,_,_=>by cases b
 |.osl _,_,_,_,_,_,b,_,_,_=>by cases b
 |.ptr _ _,_,_,_,_,_,b,_,_,_=>by cases b
 |.optr _,_,_,_,_,_,b,_,_,_=>by cases b
 |.st _,_,_,_,_,_,b,_,_,_=>by cases b
 |.c6,_,_,_,_,_,b,_,_,_=>by cases b
def Kr {A:Program} {o:c5->Nat->Prop} {b:List (Nat×aH)} {p:Operand->ao} {i:Operand->Value} (q:∀c,bC o w b rt fp (p c) (i c)) {t:List (Nat×Operand)}:∀{u:ai} {n:Nat} {C:List Field} {s:Nat} {z:ac1} {y:aH},ha A u C s z->oq p t u n=some y->∀f x h,dP u f=some (x,h)->∀c,kj t (n+f)=some c->(i c).cells.size=h.size
 |.pr a B,n,N::T,s,z,y,F,l,f,x,h,d,c,r=>by
  simp only[oq] at l;split at l
  case h_2=>cases l
  rename_i W X e I;obtain⟨O,D,P,⟨Q,Y,aw,R,S⟩,E⟩:=F;cases f with
  |zero=>
   simp only[dP,bF,fe] at d;obtain⟨_,rfl⟩:=d;rw[kv] at r;rw[r] at e;have g:=q c;simp only at e;split at e
   ·rename_i h L j;cases k:a1 a h with
    |false=>rw[k] at e;cases e
    |true=>
     rw[j] at g;generalize H:i c=K at g;cases g with|val m=>
     rw[nv (D.lay k) m.len m.one];have:=m.len;have:=a1.size k;simp;omega
   ·rename_i K j;split at e
    ·rename_i L J;rw[j] at g;generalize H:i c=V at g;cases g;have:=(oa (M:=o) (w:=w) J).len;simpa using this
    cases e
   cases e
  |succ f=>
   simp only[dP] at d;split at d
   ·rename_i v G;simp only[bF,fe] at d;obtain⟨_,rfl⟩:=d;exact Kr q (u:=B) (n:=n+1) E I f v.1 v.2 G c (by rwa[(U:n+1+f=n+(f+1))])
   cases d
 |.pr _ _,_,[],_,_,_,b,_,_,_,_,_,_,_=>b.elim
 |.nil,_,_,_,_,_,_,_,_,_,_,d,_,_=>by cases d
 |.int _,_,_,_,_,_,b,_,_,_,_,_,_,_=>by cases b
 |.bool,_,_,_,_,_,b,_,_,_,_,_,_,_=>by cases b
 |.str,_,_,_,_,_,b,_,_,_,_,_,_,_=>by cases b
 |.a5 _ _,_,_,_,_,_,b,_,_,_,_,_,_,_=>by cases b
 |.osl _,_,_,_,_,_,b,_,_,_,_,_,_,_=>by cases b
 |.ptr _ _,_,_,_,_,_,b,_,_,_,_,_,_,_=>by cases b
 |.optr _,_,_,_,_,_,b,_,_,_,_,_,_,_=>by cases b
 |.st _,_,_,_,_,_,b,_,_,_,_,_,_,_=>by cases b
 |.c6,_,_,_,_,_,b,_,_,_,_,_,_,_=>by cases b
def run_places {P:Program} (w:World):∀(e:ai) (i:List Field) (d:Nat) (g:ac1),ha P e i d g->(i.mapM λf=>do Pure.pure (f.offset,<-sizeOf f.type):Sem ac9).run P w=.ok ((List.range (eP e)).map λc=>(d+dj e c,match dP e c with|some k=>k.2.size|none=>0)) w
 |.pr a h,f::l,d,g,b=>by have j:=run_places w h l (d+a.size) (g.drop a.size) b.2.2.2.2;simp only[List.mapM_cons,Sem.run_bind,b.2.1.sizeOf,Result.andThen_ok,Sem.run_pure,j];simp only[eP,List.range_succ_eq_map,eo,p4,b.1,dj,kv,dP];congr 2;apply hZ;intro c _;simp only[Function.comp,dj,dP];rw[nT];cases dP h c<;>rfl
 |.nil,[],_,_,_=>rfl
 |.pr _ _,[],_,_,b=>b.elim
 |.nil,_::_,_,_,b=>b.elim
 |.int _,_,_,_,b=>by cases b
 |.bool,_,_,_,b=>by cases b
 |.str,_,_,_,b=>by cases b
 |.a5 _ _,_,_,_,b=>by cases b
 |.osl _,_,_,_,b=>by cases b
 |.ptr _ _,_,_,_,b=>by cases b
 |.optr _,_,_,_,b=>by cases b
 |.st _,_,_,_,b=>by cases b
 |.c6,_,_,_,b=>by cases b
def Pv (an:br C st a.tmps w I rt fp) {k:Array (Nat×Operand)} (ds:o.op=.build G k) (f:(v8 E.tt (aR st.g) G k.toList).K Q):Yields E C st a w I rt fp o Q:=by
 unfold v8 at f;split at f
 ·exact f.elim
 rename_i b J;cases r:(kF k.toList 0&&k.toList.all (λc=>Nat.blt c.1 (eP b))) with
 |false=>rw[r] at f;exact f.elim
 |true=>
  rw[r] at f;simp only[bc,eJ] at r;obtain⟨X,H⟩:=r;simp only[cond_true] at f;split at f
  case h_2=>exact f.elim
  rename_i fn ap;obtain⟨m,p,i,a3,fz,a4,bl,q,am⟩:∃m p i,E.P.info? G=some m/\m.size=b.size/\m.zero=some (.agg i)/\E.P.underlying G=some (.struct p)/\ha E.P b p.toList 0 i.toList/\i.size=b.size:=by
   unfold jS at J;split at J
   ·rename_i f5 ce;cases J;obtain⟨_,m,p,i,aw,d5,_,d6,d7,d8,d9⟩:=E.ok G _ ce;exact⟨m,p,i,aw,d5,d6,d7,d8,d9⟩
   cases J
  have S:=Kr (λe=>an.aR e) q ap;have R:=run_places (P:=E.P) w b p.toList 0 i.toList q;simp only[hE] at R S;generalize d1:((List.range (eP b)).map λj=>(dj b j,match dP b j with|some c=>c.2.size|none=>0))=V at R;have z:∀j F l,dP b j=some (F,l)->j<eP b->V.toArray[j]?=some (dj b j,l.size):=(by intro j F l d cv;rw[<-d1];simp[cv,d]);obtain⟨N,ek,el,em,aK⟩:=xh (λm=>V.toArray[m]?) (k.toList.map λc=>(c.1,a.eval c.2)) i (by
   intro c A;obtain⟨h,y,rfl⟩:=bR.1 A;have x:h.1<eP b:=eM (H h y);obtain⟨F,l,d⟩:=pC q h.1 x;refine⟨_,_,z _ _ _ d x,S _ _ _ d h.2 ?_,by rw[am];exact uK d⟩;exact EQ X y) (by
   rw[tC];refine(ER X).imp_of_mem ?_;intro c W A d3 x d4 eq f1 f2 al Y;have D:c.1<eP b:=eM (H c A);have a0:W.1<eP b:=eM (H W d3);obtain⟨ex,fs,s⟩:=pC q c.1 D;obtain⟨f3,f4,r⟩:=pC q W.1 a0;rw[z _ _ _ s D] at al;rw[z _ _ _ r a0] at Y;cases al;cases Y;exact .inl (sr s r x))
  have f0:N.toList.length=b.size:=(by simp[el,am]);obtain⟨ad,ft⟩:=Kq (w:=w) (λe=>an.aR e) (parts:=k.toList) (cells:=N.toList) (u:=b) (n:=0) (off:=0) q ap U (by
   intro M F l d;have ci:M<eP b:=EB d;simp only[hE];have fT:=uK d;refine⟨λe L=>?_,λL=>?_⟩
   ·have co:=xB L;have T:=S M F l d e L;refine⟨T,?_⟩;apply gK;intro B;rcases bn B l.size with t|t
    ·obtain⟨O,av⟩:∃O,(a.eval e).cells[B]?=some O:=⟨_,vB U⟩;have:=aK (M,a.eval e) (bR.2 ⟨(M,e),co,rfl⟩) _ _ (z _ _ _ d ci) B O av;rw[kT t,iJ];simp only[tm];rw[this,av]
    rw[fc (by simp;omega),fc (by simp;omega)]
   apply gK;intro B;rcases bn B l.size with t|t
   ·rw[kT t,kT t,iJ,iJ];simp only[tm];refine em _ ?_;intro c A d4 eq al;obtain⟨h,y,rfl⟩:=bR.1 A;have dl:=E7 L h y;have D:h.1<eP b:=eM (H h y);obtain⟨ex,fs,s⟩:=pC q h.1 D;rw[z _ _ _ s D] at al;cases al;rcases Nat.lt_or_gt_of_ne dl with x|bs
    ·have:=sr s d x;omega
    have:=sr d s bs;omega
   rw[fc (by simp;omega),fc (by simp;omega)])
  rw[kS] at ad;refine .pure (v:=.agg N) ?_ (.val (τ:=.st fn.1) (cs:=N.toList) ad) f;have d2:(Array.map (λe=>(e.fst,a.eval e.snd)) k).toList=k.toList.map λc=>(c.1,a.eval c.2):=ab;have d0:(p.mapM λZ=>do Pure.pure (Z.offset,<-sizeOf Z.type):Sem (Array c2)).run E.P w=.ok V.toArray w:=(by rw[Array.mapM_eq_mapM_toList,Sem.run_map,R];rfl);have T:(zeroValue G).run E.P w=.ok (.agg i) w:=(by simp[zeroValue,typeInfo,a3,a4]);simp only[execOp,ds,Instr.build,Sem.run_bind,T,run_underlying bl,Result.andThen_ok,d0,d2,Value.cells,ek];rfl
end
end
section
def eg {α:Type}:List (Int×α)->Int->Option α
 |[],_=>none
 |(a,v)::r,k=>if a=k then some v else eg r k
def g8 {α:Type}:List (Int×α)->Int->α->List (Int×α)
 |[],k,v=>[(k,v)]
 |(a,u)::r,k,v=>if k<a then(k,v)::(a,u)::r else if k=a then(k,v)::r else(a,u)::g8 r k v
def hz {α:Type} (l:List (Int×α)) (a:Int):List (Int×α):=l.filter λb=>decide (b.1≠a)
def iC {α:Type} (b:Option (List (Int×α)×Nat)) (a:Int):Option α:=b.bind λc=>eg c.1 a
def uY {α:Type} (a:Option (List (Int×α)×Nat)):Int:=match a with|some b=>(b.1.length:Int)|none=>0
section
variable {α:Type}
def BR:∀{l:List (Int×α)} {c:Int} {d:α},eg l c=some d->(c,d)∈l
 |[],_,_,b=>by cases b
 |(a,u)::r,c,d,b=>by
  simp only[eg] at b;split at b
  ·rename_i e;cases b;subst e;exact jE ..
  exact e1 _ (BR b)
def Kf:∀{l:List (Int×α)} {d:Int},eg l d=none->∀e,(d,e)∉l
 |[],_,_,_=>by simp
 |(a,u)::r,d,b,e=>by
  simp only[eg] at b;split at b
  ·cases b
  rename_i f;intro g;rcases dg.1 g with c|c
  ·cases c;exact f rfl
  exact Kf b e c
def M8 {l:List (Int×α)} (a:l.Pairwise (λc b=>c.1<b.1)):(l.map (·.1)).Nodup:=by rw[List.Nodup,tC];exact a.imp (λa d=>by omega)
def SI {l:List (Int×α)} (b:(l.map (·.1)).Nodup) {d:α}:eg l S=some d↔(S,d)∈l:=by
 constructor
 ·exact BR
 intro c
 induction l with
 |nil=>cases c
 |cons f h e=>
  obtain⟨g,i⟩:=f;simp only[eo,jd] at b;simp only[eg];rcases dg.1 c with a|a
  ·cases a;rw[aj rfl]
  rw[ag,e b.2 a];rintro rfl;exact b.1 (bR.2 ⟨_,a,rfl⟩)
def Kg:∀{l:List (Int×α)} {d:Int} {e:α} {c:Int×α},c∈g8 l d e->c=(d,e)\/c∈l
 |[],d,e,c,b=>by simpa[g8] using b
 |(a,u)::r,d,e,c,b=>by
  simp only[g8] at b;split at b
  ·rcases dg.1 b with b|b
   ·exact .inl b
   exact .inr b
  split at b
  ·rcases dg.1 b with b|b
   ·exact .inl b
   exact .inr (e1 _ b)
  rcases dg.1 b with b|b
  ·exact .inr (b▸jE ..)
  exact(Kg b).imp id (e1 _)
def Fe:∀{l:List (Int×α)} {d:Int} {f:α},l.Pairwise (λc b=>c.1<b.1)->(g8 l d f).Pairwise (λc b=>c.1<b.1)
 |[],d,f,_=>by simp[g8]
 |(c,u)::r,d,f,h=>by
  rw[mT] at h;simp only[g8];split
  ·rename_i i;rw[mT,mT];refine⟨λe a=>?_,h.1,h.2⟩;rcases dg.1 a with rfl|a
   ·exact i
   have:=h.1 e a;simp only at this|-;omega
  rename_i i;split
  ·rename_i g;subst g;rw[mT];exact⟨h.1,h.2⟩
  rename_i g;rw[mT];refine⟨λe a=>?_,Fe h.2⟩;rcases Kg a with rfl|a
  ·simp only;omega
  exact h.1 e a
def SG {l:List (Int×α)} (c:l.Pairwise (λa b=>a.1<b.1)):(hz l S).Pairwise (λa b=>a.1<b.1):=c.filter _
def Fc:∀{l:List (Int×α)} {k:Int} {v:α},l.Pairwise (λa b=>a.1<b.1)->(g8 l k v).Perm ((k,v)::hz l k)
 |[],k,v,_=>by simp[g8,hz]
 |(a,u)::r,k,v,h=>by
  rw[mT] at h;simp only[g8];split
  ·rename_i f;have:hz ((a,u)::r) k=(a,u)::r:=by
    unfold hz;rw[l4];intro d c;rcases dg.1 c with rfl|c
    ·simp;omega
    have:=h.1 d c;simp only at this;simp;omega
   rw[this]
  rename_i f;split
  ·rename_i e;subst e;have:hz ((k,u)::r) k=r:=by
    unfold hz;rw[jD,ag ab,l4];intro d c;have:=h.1 d c;simp only at this;simp;omega
   rw[this]
  rename_i e;have:hz ((a,u)::r) k=(a,u)::hz r k:=(by unfold hz;rw[jD,aj (by simp;omega)]);rw[this];exact((Fc h.2).cons _).trans (.swap _ _ _)
end
section
variable {P:Program} {w:World} {b:Nat} {di:Array MapEntry} {c:Nat}
def lL:hk w b=some (di,c)↔w.heap[b]?=some (.map di c):=by
 unfold hk;constructor
 ·intro a;split at a
  ·rename_i f e d;cases a;exact d
  cases a
 intro a;rw[a]
def oA (a:w.heap[b]?=some (.map di c)):(setObj b (.map t h)).run P w=.ok () {w with heap:=w.heap.setIfInBounds b (.map t h)}:=by simp[setObj,Sem.run,a]
def run_getObj_map (a:w.heap[b]?=some (.map di c)):(getObj b).run P w=.ok (.map di c) w:=by simp[getObj,Sem.run,a]
def Jg {j:IntKind} (b:Int):∀(di:List MapEntry) (c:ac8) (d:Nat),di.map (·.key)=c.map (Value.int .i64)->b∉c->Instr.findNow (.int j) (.int .i64 b) di d=some none
 |[],_,_,_,_=>rfl
 |e::di,[],_,a,_=>by cases a
 |e::di,g::c,d,a,f=>by simp only[eo,fJ] at a;have i:(b==g)=false:=(by simp;rintro rfl;exact f ab);simp only[Instr.findNow,a.1,Instr.sameNow,if_true,i];exact Jg b di c (d+1) a.2 (λh=>f (e1 _ h))
def Jh {kd:IntKind} (b:Int):∀(di:List MapEntry) (d:ac8) (f:Nat),di.map (·.key)=d.map (Value.int .i64)->b∈d->∃c e,d[c]?=some b/\di[c]?=some e/\Instr.findNow (.int kd) (.int .i64 b) di f=some (some (f+c,e.val))
 |[],[],_,_,a=>by cases a
 |[],_::_,_,a,_=>by cases a
 |e::di,[],_,a,_=>by cases a
 |e::di,h::d,f,a,m=>by
  simp only[eo,fJ] at a;by_cases g:b=h
  ·subst g;refine⟨0,e,rfl,rfl,?_⟩;simp only[Instr.findNow,a.1,Instr.sameNow,if_true,beq_self_eq_true];rfl
  have n:(b==h)=false:=(by simpa using g);obtain⟨c,i,j,k,l⟩:=Jh b di d (f+1) a.2 ((dg.1 m).resolve_left g);refine⟨c+1,i,by simpa using j,by simpa using k,?_⟩;simp only[Instr.findNow,a.1,Instr.sameNow,if_true,n];rw[l];simp only[bF,fe,and_true];omega
structure fq (M:c5->Nat->Prop) (w:World) (t:ai) (b:Nat) (l:List (Int×t.den)) (c:Nat) (di:Array MapEntry) (L:List (Int×Nat×t.den)):Prop where
 nk:iK L l c
 h:w.heap[b]?=some (.map di c)
 n:di.size=L.length
 e:∀(i:Nat) (q:Int×Nat×t.den),L[i]?=some q->∃ds:ac1,ds.length=t.size/\di[i]?=some (MapEntry.mk (.int .i64 q.1) (bG t ds) q.2.1)/\aP M w t ds q.2.2 []
variable {M:c5->Nat->Prop} {t:ai} {l:List (Int×t.den)} {L:List (Int×Nat×t.den)}
def fq.keys (f:fq M w t b l c di L):di.toList.map (·.key)=(L.map (·.1)).map (Value.int .i64):=by
 apply gK;intro d;simp only[eT,tm];rcases bn d L.length with a|a
 ·obtain⟨h,_,g,_⟩:=f.e d L[d] (a9 a);rw[g,a9 a];rfl
 rw[fc a,Array.getElem?_eq_none (by rw[f.n];exact a)];rfl
def iK.keys {α:Type} {L:List (Int×Nat×α)} {l:List (Int×α)} {c:Nat} (a:iK L l c):(L.map (·.1)).Perm (l.map (·.1)):=by have:=a.2.1.map (·.1);rwa[p4] at this
def iK.u6 {α:Type} {L:List (Int×Nat×α)} {l:List (Int×α)} {c:Nat} (a:iK L l c):(L.map (·.1)).Nodup:=a.keys.nodup_iff.2 (M8 a.1)
def iK.mem {α:Type} {L:List (Int×Nat×α)} {l:List (Int×α)} {c:Nat} (b:iK L l c) {a:Int×Nat×α} (d:a∈L):eg l a.1=some a.2.2:=
 (SI (M8 b.1)).2 (b.2.1.mem_iff.1 (bR.2 ⟨a,d,rfl⟩))
def iK.len {α:Type} {L:List (Int×Nat×α)} {l:List (Int×α)} {c:Nat} (a:iK L l c):L.length=l.length:=by have:=a.2.1.length_eq;simpa using this
def Gm {P:Program} {w:World} (d:P.underlying a=some (.int u)) {di:List MapEntry} {b:Option (Nat×Value)} (c:Instr.findNow (.int u) (.int .i64 S) di 0=some b):(Instr.findKey a (.int .i64 S) di).run P w=.ok b w:=by simp only[Instr.findKey,Sem.run_bind,run_underlying d,Result.andThen_ok,c];rfl
def mH {P:Program} {w:World} (c:P.underlying a=some (.int u)) (b:Bool) (e:Nat) (d:Int):(Instr.checkKey b (e+1) a (.int .i64 d)).run P w=.ok () w:=by simp[Instr.checkKey,Sem.run_bind,run_underlying c]
def fq.find (j:fq M w t b l c di L) (v:P.underlying a=some (.int u)) (d:Int):(eg l d=none/\(∀o∈L,o.1≠d)/\∀f,(Instr.findKey a (.int .i64 d) di.toList).run P f=.ok none f)\/∃h m i g,eg l d=some i/\L[h]?=some (d,m,i)/\g.length=t.size/\di[h]?=some ⟨.int .i64 d,bG t g,m⟩/\aP M w t g i []/\∀f,(Instr.findKey a (.int .i64 d) di.toList).run P f=.ok (some (h,bG t g)) f:=by
 by_cases k:d∈L.map (·.1)
 ·obtain⟨h,q,r,s,z⟩:=Jh (kd:=u) d di.toList _ 0 j.keys k;rw[eT] at r;obtain⟨⟨C,m,i⟩,n,rfl⟩:=dY.1 r;obtain⟨g,x,p,y⟩:=j.e h _ n;rw[tm,p] at s;cases s;refine .inr ⟨h,m,i,g,j.nk.mem (kt n),n,x,p,y,λf=>Gm v ?_⟩;rw[z,hE]
 refine .inl ⟨?_,λo B q=>k (bR.2 ⟨o,B,q⟩),λf=>Gm v (Jg d _ _ 0 j.keys k)⟩;cases A:eg l d with
 |none=>rfl
 |some i=>exact absurd (j.nk.keys.mem_iff.2 (bR.2 ⟨_,BR A,rfl⟩)) k
def fq.empty (M:c5->Nat->Prop) (t:ai) (a:w.heap[b]?=some (.map #[] 0)):fq M w t b [] 0 #[] []:=
 ⟨⟨.nil,.refl _,.nil,ab⟩,a,rfl,ab⟩
def sM {α:Type} (L:List (Int×Nat×α)) (a:Int) (d:α) (c:Nat):List (Int×Nat×α)×Nat:=
 if a∈L.map (·.1) then(L.map λb=>if b.1=a then(a,b.2.1,d) else b,c) else(L++[(a,c,d)],c+1)
def L5 {α:Type} {d:Int} {i:α}:∀{b:List (Int×α)},(b.map (·.1)).Nodup->d∈b.map (·.1)->(b.map λc=>if c.1=d then(d,i) else c).Perm ((d,i)::hz b d)
 |[],_,e=>by cases e
 |(a,u)::b,e,j=>by
  simp only[eo,jd] at e;simp only[eo];by_cases f:a=d
  ·subst f;rw[aj rfl];have l:(b.map λc=>if c.1=a then(a,i) else c)=b:=by
    conv=>rhs;rw[<-List.map_id b]
    refine hZ λc h=>?_;rw[ag];rfl;rintro rfl;exact e.1 (bR.2 ⟨c,h,rfl⟩)
   have g:hz ((a,u)::b) a=b:=(by unfold hz;rw[jD,ag ab,l4];intro c h;simp only[decide_eq_true_eq];rintro rfl;exact e.1 (bR.2 ⟨c,h,rfl⟩));rw[l,g]
  rw[ag f];have g:hz ((a,u)::b) d=(a,u)::hz b d:=(by unfold hz;rw[jD,aj (by simpa using f)]);rw[g];refine((L5 e.2 ?_).cons _).trans (.swap _ _ _);simp only[eo,dg] at j;exact j.resolve_left (λk=>f k.symm)
def iK.put {α:Type} {L:List (Int×Nat×α)} {l:List (Int×α)} {c:Nat} (e:iK L l c) (d:Int) (h:α):iK (sM L d h c).1 (g8 l d h) (bif (eg l d).isSome then c else c+1)/\(sM L d h c).2=(bif (eg l d).isSome then c else c+1):=by
 have j:(eg l d).isSome=decide (d∈L.map (·.1)):=by
  by_cases g:d∈L.map (·.1)
  ·obtain⟨a,f,rfl⟩:=bR.1 g;rw[e.mem f,decide_eq_true g];rfl
  rw[decide_eq_false g];cases j:eg l d with
  |none=>rfl
  |some v=>exact absurd (e.keys.mem_iff.2 (bR.2 ⟨_,BR j,rfl⟩)) g
 rw[j];unfold sM;have p:((L.map λa=>(a.1,a.2.2)).filter λa=>decide (a.1≠d)).Perm (hz l d):=e.2.1.filter _;by_cases g:d∈L.map (·.1)
 ·rw[aj g,decide_eq_true g];refine⟨⟨Fe e.1,?_,?_,?_⟩,rfl⟩
  ·have al:((L.map λa=>if a.1=d then(d,a.2.1,h) else a).map λa=>(a.1,a.2.2))=(L.map λa=>(a.1,a.2.2)).map λa=>if a.1=d then(d,h) else a:=by
    simp only[p4];refine hZ λa _=>?_;simp only[Function.comp];by_cases i:a.1=d
    ·rw[aj i,aj i]
    rw[ag i,ag i]
   show((L.map λa=>if a.1=d then(d,a.2.1,h) else a).map λa=>(a.1,a.2.2)).Perm _;rw[al];refine(L5 ?_ ?_).trans ((p.cons _).trans (Fc e.1).symm)
   ·rw[p4];exact e.u6
   rw[p4];exact g
  ·have al:((L.map λa=>if a.1=d then(d,a.2.1,h) else a).map λa=>a.2.1)=L.map λa=>a.2.1:=by
    rw[p4];refine hZ λa _=>?_;simp only[Function.comp];split<;>rfl
   show((L.map λa=>if a.1=d then(d,a.2.1,h) else a).map λa=>a.2.1).Nodup;rw[al];exact e.2.2.1
  intro a f;obtain⟨r,q,rfl⟩:=bR.1 f;have:=e.2.2.2 r q;show _<c;split<;>exact this
 rw[ag g,decide_eq_false g];refine⟨⟨Fe e.1,?_,?_,?_⟩,rfl⟩
 ·have m:hz l d=l:=by
   unfold hz;rw[l4];intro a f;simp only[decide_eq_true_eq];rintro rfl;exact g (e.keys.mem_iff.2 (bR.2 ⟨a,f,rfl⟩))
  have:=Fc (k:=d) (v:=h) e.1;rw[m] at this;refine List.Perm.trans ?_ this.symm;show((L++[(d,c,h)]).map λa=>(a.1,a.2.2)).Perm _;rw[fZ];exact List.perm_append_comm.trans ((e.2.1).cons _)
 ·show((L++[(d,c,h)]).map λa=>a.2.1).Nodup;rw[fZ,hC];refine⟨e.2.2.1,ab,λs n b o i=>?_⟩;obtain⟨a,f,rfl⟩:=bR.1 n;have:=e.2.2.2 a f;simp at o;omega
 intro a f;rcases dX.1 f with f|f
 ·have:=e.2.2.2 a f;show _<c+1;omega
 simp at f;subst f;exact Nat.lt_succ_self _
def Jd {α:Type} {j:Int}:∀{c:List α} (b:α->Int) {g:Nat} {d:α},(c.map b).Nodup->c[g]?=some d->b d=j->c.eraseIdx g=c.filter λi=>decide (b i≠j)
 |[],b,g,d,_,a,_=>by simp at a
 |x::c,b,0,d,e,a,f=>by simp only[iI,bF] at a;subst a;simp only[eo,jd] at e;rw[List.eraseIdx_cons_zero,jD,ag (by simpa using f),l4.2];intro i k;simp only[decide_eq_true_eq];intro h;exact e.1 (bR.2 ⟨i,k,h.trans f.symm⟩)
 |x::c,b,g+1,d,e,a,f=>by simp only[oQ] at a;simp only[eo,jd] at e;rw[List.eraseIdx_cons_succ,jD,aj,Jd b e.2 a f];simp only[decide_eq_true_eq];intro h;exact e.1 (bR.2 ⟨d,kt a,f.trans h.symm⟩)
def iK.del {α:Type} {L:List (Int×Nat×α)} {l:List (Int×α)} {c:Nat} (b:iK L l c) (d:Int):iK (L.filter λa=>decide (a.1≠d)) (hz l d) c:=by
 refine⟨SG b.1,?_,?_,λa e=>b.2.2.2 a (gr.1 e).1⟩
 ·have:=b.2.1.filter (λa=>decide (a.1≠d));rw[List.filter_map] at this;exact this
 exact b.2.2.1.sublist (List.filter_sublist.map _)
def aP.Kv (a:fq M w t b l c di L):aP M w (.mp t) [.map (some b)] (some (l,c)) [b]:=⟨b,di,L,rfl,rfl,a.nk,lL.2 a.h,a.n,a.e⟩
def aP.Ku (a:aP M w (.mp t) g (some (l,c)) m):∃b di L,g=[.map (some b)]/\m=[b]/\fq M w t b l c di L:=by obtain⟨b,di,L,d,e,f,h,i,j⟩:=a;exact⟨b,di,L,d,e,f,lL.1 h,i,j⟩
def aP.Zf {a:c5} (d:aP M w (.dB a t) g (some (l,c)) m):∃b di L,g=[.map (some b)]/\m=[]/\M a b/\fq M w t b l c di L:=by obtain⟨b,di,L,e,f,h,n,i,j,k⟩:=d;exact⟨b,di,L,e,f,n,h,lL.1 i,j,k⟩
def eY (w:World) (b:Nat) (di:Array MapEntry) (c:Nat):World:={w with heap:=w.heap.setIfInBounds b (.map di c)}
def lT {es':Array MapEntry} {c':Nat} (a:w.heap[b]?=some (.map di c)):(eY w b es' c').heap[b]?=some (.map es' c'):=by have:=(lY.1 a).1;simp[eY,this]
def yo {c:Array MapEntry} (d:h≠b):(eY w b c O).heap[h]?=w.heap[h]?:=by simp only[eY];rw[CY (λa=>d a.symm)]
def MZ {a:Array MapEntry}:(eY w b a h).heap.size=w.heap.size:=by simp[eY]
def XT {es':Array MapEntry} {c':Nat} (e:w.heap[b]?=some (.map di c)) (a:Addr):(eY w b es' c').cell? a=w.cell? a:=by
 by_cases d:a.block=b
 ·unfold World.cell?;rw[d,lT e,e]
 exact World.cell?_of_block (yo d)
def XU {es':Array MapEntry} {c':Nat} (e:w.heap[b]?=some (.map di c)) (a:Addr):(eY w b es' c').frozen? a=w.frozen? a:=by
 by_cases d:a.block=b
 ·unfold World.frozen?;rw[d,lT e,e]
 exact World.frozen?_of_block (yo d)
def Cx {a:Array MapEntry} (c:h≠b):bN w (eY w b a O) h:=.of_heap (yo c)
def fq.update (f:fq M w t b l c di L) {Y:TypeId} (U:P.underlying G=some (.map a Y)) (Q:P.underlying a=some (.int u)) (d:Int) {q:t.den} (W:g.length=t.size) (X:aP M w t g q []):∃y Z,(Instr.mapUpdate G (.map (some b)) (.int .i64 d) (bG t g)).run P w=.ok () (eY w b y (bif (eg l d).isSome then c else c+1))/\(∀{D:c5->Nat->Prop},(∀x d,M x d->D x d/\d≠b)->fq D (eY w b y (bif (eg l d).isSome then c else c+1)) t b (g8 l d q) (bif (eg l d).isSome then c else c+1) y Z)/\i7 w (eY w b y (bif (eg l d).isSome then c else c+1)) b:=by
 have H:∀{D:c5->Nat->Prop} {y:Array MapEntry} {ad:Nat},(∀x d,M x d->D x d/\d≠b)->∀{g:ac1} {q:t.den},aP M w t g q []->aP D (eY w b y ad) t g q []:=
  λs _ _ ci=>ci.mono (λx d A=>⟨(s x d A).1,Cx (s x d A).2⟩) ab
 obtain⟨v,dl⟩:=f.nk.put d q;rcases f.find (P:=P) Q d with⟨O,z,T⟩|⟨C,ds,d0,cs,O,z,T,F,cv,av⟩
 ·rw[O] at v|-;have A:d∉L.map (·.1):=λa0=>(by obtain⟨m,ce,o⟩:=bR.1 a0;exact z m ce o);simp only[Option.isSome_none,cond_false] at v|-;have al:(sM L d q c).1=L++[(d,c,q)]:=(by unfold sM;rw[ag A]);rw[al] at v;refine⟨di.push ⟨.int .i64 d,bG t g,c⟩,L++[(d,c,q)],?_,λs=>⟨v,lT f.h,by simp[f.n],λk m p=>?_⟩,?_⟩
  ·simp only[Instr.mapUpdate,Sem.run_bind,run_underlying U,Result.andThen_ok,run_getObj_map f.h,mH Q,T];exact oA f.h
  ·rcases bn k L.length with R|R
   ·rw[lq R] at p;obtain⟨N,I,J,K⟩:=f.e k m p;exact⟨N,I,by rw[vC,ag (by rw[f.n];omega)];exact J,H s K⟩
   rw[l5 R] at p;have a3:k-L.length=0:=(by have:=(ec.1 p).1;simp at this;omega);rw[a3] at p;simp only[iI,bF] at p;subst p;exact⟨g,W,by rw[vC,aj (by rw[f.n];omega)],H s X⟩
  intro ap am E;rw[lL.2 f.h] at E;cases E;refine⟨_,_,lL.2 (lT f.h),Nat.le_succ _,λk o r V=>?_⟩;rw[vC] at r;split at r
  ·cases r;exact absurd V (Nat.lt_irrefl _)
  exact⟨k,o,r,rfl,rfl⟩
 rw[O] at v|-;have A:d∈L.map (·.1):=bR.2 ⟨_,kt z,rfl⟩;simp only[yX,cond_true] at v|-;have al:(sM L d q c).1=L.map λm=>if m.1=d then(d,m.2.1,q) else m:=by unfold sM;rw[aj A]
 rw[al] at v;have co:∀(k:Nat) (m:Int×Nat×t.den),L[k]?=some m->m.1=d->k=C:=λk m p o=>(by have bs:=f.nk.u6;have a4:k<(L.map (·.1)).length:=(by have:=(ec.1 p).1;simpa using this);have:=List.getElem?_inj a4 bs (i:=k) (j:=C);apply this.1;rw[eT,eT,p,z];simp[o]);refine⟨di.modify C λo=>{o with key:=.int .i64 d,val:=bG t g},L.map λm=>if m.1=d then(d,m.2.1,q) else m,?_,λs=>⟨v,lT f.h,by simp[f.n],λk m p=>?_⟩,?_⟩
 ·have bl:(Instr.keyThatStays (((di[C]?).map (·.key)).getD (.int .i64 d)) (.int .i64 d)).run P w=.ok (.int .i64 d) w:=by
   rw[F];simp[Instr.keyThatStays,Instr.sameBits]
  simp only[Instr.mapUpdate,Sem.run_bind,run_underlying U,Result.andThen_ok,run_getObj_map f.h,mH Q,av,bl];exact oA f.h
 ·rw[eT] at p;obtain⟨S,B,rfl⟩:=dY.1 p;by_cases o:S.1=d
  ·obtain rfl:=co k S B o;rw[z] at B;cases B;simp only[if_true];exact⟨g,W,by rw[pV,aj rfl,F];rfl,H s X⟩
  rw[ag o];obtain⟨N,I,J,K⟩:=f.e k S B;refine⟨N,I,?_,H s K⟩;rw[pV,ag,J];rintro rfl;rw[z] at B;cases B;exact o rfl
 intro ap am E;rw[lL.2 f.h] at E;cases E;refine⟨_,_,lL.2 (lT f.h),a6 _,λk o r V=>?_⟩;rw[pV] at r;split at r
 ·rename_i an;subst an;rw[F] at r;simp only[fd,bF] at r;subst r;exact⟨C,_,F,rfl,rfl⟩
 exact⟨k,o,r,rfl,rfl⟩
def fq.delete (d:fq M w t b l c di L) {R:TypeId} (N:P.underlying G=some (.map a R)) (E:P.underlying a=some (.int u)) (f:Int) (an:TypeId) (T:TypeId):∃o S,(Builtin.delete_ #[G,T] an #[.map (some b),.int .i64 f]).run P w=.ok (.tuple #[]) (eY w b o c)/\(∀{r:c5->Nat->Prop},(∀i f,M i f->r i f/\f≠b)->fq r (eY w b o c) t b (hz l f) c o S)/\i7 w (eY w b o c) b:=by
 have H:∀{r:c5->Nat->Prop} {o:Array MapEntry} {U:Nat},(∀i f,M i f->r i f/\f≠b)->∀{I:ac1} {Q:t.den},aP M w t I Q []->aP r (eY w b o U) t I Q []:=
  λk _ _ am=>am.mono (λi f O=>⟨(k i f O).1,Cx (k i f O).2⟩) ab
 rcases d.find (P:=P) E f with⟨J,C,K⟩|⟨m,a0,a3,ap,J,C,K,D,av,Y⟩
 ·have al:hz l f=l:=by
   unfold hz;rw[l4];intro j ad;simp only[decide_eq_true_eq];rintro rfl;exact Kf J j.2 ad
  refine⟨di,L,?_,λk=>⟨by rw[al];exact d.nk,lT d.h,d.n,λg j q=>?_⟩,?_⟩
  ·simp only[Builtin.delete_,Sem.run_bind,run_underlying N,Result.andThen_ok,run_getObj_map d.h,mH E,K,List.getElem?_toArray,iI,oQ];rw[oA d.h];rfl
  ·obtain⟨y,s,v,x⟩:=d.e g j q;exact⟨y,s,v,H k x⟩
  intro X V A;rw[lL.2 d.h] at A;cases A;exact⟨_,_,lL.2 (lT d.h),a6 _,λg B p _=>⟨g,B,p,rfl,rfl⟩⟩
 have W:L.eraseIdx m=L.filter λj=>decide (j.1≠f):=Jd (·.1) d.nk.u6 C rfl;refine⟨di.eraseIdxIfInBounds m,L.eraseIdx m,?_,λk=>⟨by rw[W];exact d.nk.del f,lT d.h,?_,λg j q=>?_⟩,?_⟩
 ·simp only[Builtin.delete_,Sem.run_bind,run_underlying N,Result.andThen_ok,run_getObj_map d.h,mH E,Y,List.getElem?_toArray,iI,oQ];rw[oA d.h];rfl
 ·have z:m<di.size:=(lY.1 D).1;have Z:m<L.length:=(ec.1 C).1;rw[Array.eraseIdxIfInBounds,dif_pos z,Array.size_eraseIdx,List.length_eraseIdx,aj Z,d.n]
 ·have z:m<di.size:=(lY.1 D).1;rw[List.getElem?_eraseIdx] at q;rw[Array.eraseIdxIfInBounds,dif_pos z];split at q
  ·rename_i F;obtain⟨y,s,v,x⟩:=d.e g j q;exact⟨y,s,by rw[Array.getElem?_eraseIdx,aj F];exact v,H k x⟩
  rename_i F;obtain⟨y,s,v,x⟩:=d.e (g+1) j q;exact⟨y,s,by rw[Array.getElem?_eraseIdx,ag F];exact v,H k x⟩
 intro X V A;rw[lL.2 d.h] at A;cases A;refine⟨_,_,lL.2 (lT d.h),a6 _,λg B p _=>?_⟩;have z:m<di.size:=(lY.1 D).1;rw[Array.eraseIdxIfInBounds,dif_pos z,Array.getElem?_eraseIdx] at p;split at p
 ·exact⟨g,B,p,rfl,rfl⟩
 exact⟨g+1,B,p,rfl,rfl⟩
end
end
section
section
variable {E:dR} {C:dn} {st:aO} {a:Act} {w:World} {I:Nat->Prop} {rt:Nat->ac1} {fp:Nat->ac7} {o:Oper} {Q:ao->List (Nat×aH)->Prop}
def jo (tt:List (TypeId×ai)) (b:TypeId):Option ai:=match au tt b with|some (.mp a)=>some a|some (.dB _ a)=>some a|_=>none
def jo.ok {d:TypeId} {i:ai} (c:jo E.tt d=some i):∃a b,E.P.underlying d=some (.map a b)/\E.P.underlying a=some (.int .i64)/\dC E.P i b:=by
 unfold jo at c;split at c
 ·rename_i k h;cases c;obtain⟨j,a,b,_,_,_,_,e,f,g⟩:=E.ok d _ h;exact⟨a,b,e,f,g⟩
 ·rename_i l k h;cases c;obtain⟨j,a,b,_,_,_,_,e,f,g⟩:=E.ok d _ h;exact⟨a,b,e,f,g⟩
 cases c
def u2 (tt:List (TypeId×ai)) (d:List (Nat×ai)) (e:List (Nat×aH)) (a:Nat) (c:TypeId):gu:=
 match jo tt c,au d a,au e a with
 |some f,some (.mp b),none=>bif a1 f b then .du (.ref a []) [(a,⟨.mp b,some ([],0)⟩)] else .bad
 |_,_,_=>.bad
def S4 (f:br C st a.tmps w I rt fp) (l:o.op=.makeMap G none) (b:(u2 E.tt j st.h c G).K Q):Yields E C st a w I rt fp o Q:=by
 unfold u2 at b;split at b
 case h_2=>exact b.elim
 rename_i m d p q g;cases e:a1 m d with
 |false=>rw[e] at b;exact b.elim
 |true=>
 rw[e] at b;have i:(w.alloc (.map #[] 0)).heap[w.heap.size]?=some (.map #[] 0):=(by show(w.heap.push _)[w.heap.size]?=_;rw[vC,aj rfl]);refine⟨.map (some w.heap.size),w.alloc (.map #[] 0),I,λ_=>[.map (some w.heap.size)],λ_=>[w.heap.size],.ref c [],[(c,⟨.mp d,some ([],0)⟩)],?_,.alloc w _,λ_ b=>b,λ_ b=>.inl b,.one g (aP.Kv (fq.empty _ _ i)) ab (λn e=>?_),?_,b⟩
 ·simp[execOp,l,Instr.makeMap,newObj,Sem.run]
 ·simp only[ed] at e;subst e;exact⟨a6 _,ab,λb=>by have:=f.ib _ (.inl b);omega⟩
 have k:au ([(c,(⟨.mp d,some ([],0)⟩:aH))]++st.h) c=some ⟨.mp d,some ([],0)⟩:=(by rw[yS,bU,aj rfl]);refine .ref (t:=⟨.mp d,some ([],0)⟩) (τ':=.mp d) (loc:=none) (cs:=[.map (some w.heap.size)]) k ?_;have:dz [(c,(⟨.mp d,some ([],0)⟩:aH))] (λ_=>[Value.map (some w.heap.size)]) rt c=[.map (some w.heap.size)]:=(by simp[dz,bU]);rw[this];exact aS.here
def BN (a:ai) (c:Option (List (Int×a.den)×Nat)) (d:a.den) (b:Int):Bool->ao
 |true=>.dv [.val a ((iC c b).getD d),.val .bool (iC c b).isSome]
 |false=>.val a ((iC c b).getD d)
def sE (tt:List (TypeId×ai)) (j:List (Nat×aH)) (i:TypeId) (k c:ao) (f:Bool):gu:=
 match jo tt i,c with
 |some h,.val (.int .i64) c=>match k with
  |.val (.dB l a) b=>match ko a with
   |some d=>bif a1 h a then .du (BN a b d c f) [] else .bad
   |none=>.bad
  |.ref id g=>match au j id with
   |some e=>match dF e.1 g with
    |some (.mp a)=>match ko a with
     |some d=>bif a1 h a then .part (Option (List (Int×a.den)×Nat)) (λb=>c4 e.1 e.2 g (.mp a) b) (λb=>(BN a b d c f,[])) else .bad
     |none=>.bad
    |_=>.bad
   |none=>.bad
  |_=>.bad
 |_,_=>.bad
def Ka {p l:TypeId} (t:E.P.underlying p=some (.map G l)) (f:E.P.underlying G=some (.int .i64)) (R:dC E.P d l) {e:Bool} (U:o.op=.lookup p b i e) {n:Int} (T:a.eval i=.int .i64 n) {x:d.den} (W:ko d=some x) {m:Option (List (Int×d.den)×Nat)} (g:(m=none/\a.eval b=.map none)\/∃q u r A z,m=some (u,r)/\a.eval b=.map (some q)/\fq (ba I C.B) w d q u r A z):∃v,(execOp a.eval o).run E.P w=.ok (.value v) w/\∀D:List (Nat×aH),bC (ba I C.B) w D rt fp (BN d m x n e) v:=by
 obtain⟨J,y,aw,Y,K,L⟩:=tk R W;have H:(zeroValue l).run E.P w=.ok y w:=(by simp[zeroValue,typeInfo,aw,Y]);have X:∃j,aP (ba I C.B) w d j ((iC m n).getD x) []/\(Instr.lookup p (a.eval b) (.int .i64 n) e).run E.P w=.ok (if e then .tuple #[bG d j,.bool (iC m n).isSome] else bG d j) w:=by
  rcases g with⟨rfl,g⟩|⟨q,u,r,A,z,rfl,g,s⟩
  ·refine⟨y.cells.toList,by simpa[iC] using L _ _,?_⟩;rw[g];have S:(Instr.findKey G (.int .i64 n) []).run E.P w=.ok none w:=Gm f rfl;simp only[Instr.lookup,Sem.run_bind,run_underlying t,Result.andThen_ok,Sem.run_pure,mH f,S,H];rw[<-K];cases e<;>rfl
  rw[g];rcases s.find (P:=E.P) f n with⟨c,_,N⟩|⟨an,ap,av,M,c,_,ad,am,O,Q⟩
  ·refine⟨y.cells.toList,by simpa[iC,c] using L _ _,?_⟩;simp only[Instr.lookup,Sem.run_bind,run_underlying t,Result.andThen_ok,Sem.run_pure,run_getObj_map s.h,mH f,N,H];rw[<-K];simp only[iC,aG,c,Option.isSome_none]
  refine⟨M,by simpa[iC,c] using O,?_⟩;simp only[Instr.lookup,Sem.run_bind,run_underlying t,Result.andThen_ok,Sem.run_pure,run_getObj_map s.h,mH f,Q];simp only[iC,aG,c,yX]
 obtain⟨j,F,V⟩:=X;refine⟨_,by simp only[execOp,U,T,Sem.run_bind,V];rfl,λD=>?_⟩;cases e with
 |false=>exact .val F
 |true=>
  refine .dv ab (λJ Z v c k=>?_)
  match J with
  |0=>simp at c k;subst c;subst k;exact .val F
  |1=>simp at c k;subst c;subst k;exact .bool _
  |n+2=>simp at c
def aP.Fm {e:Option (List (Int×d.den)×Nat)} (j:aP f w (.mp d) g e m):(e=none/\g=[.map none]/\m=[])\/∃a c b i h,e=some (c,b)/\g=[.map (some a)]/\m=[a]/\fq f w d a c b i h:=by
 cases e with
 |none=>exact .inl ⟨rfl,j.2,j.1⟩
 |some o=>
  obtain⟨c,b⟩:=o;obtain⟨a,i,h,k,l,n⟩:=j.Ku;exact .inr ⟨a,c,b,i,h,rfl,k,l,n⟩
def aP.NI {e:Option (List (Int×d.den)×Nat)} (j:aP f w (.dB P d) g e m):(e=none/\g=[.map none])\/∃a c b i h,e=some (c,b)/\g=[.map (some a)]/\fq f w d a c b i h:=by
 cases e with
 |none=>exact .inl ⟨rfl,j.2⟩
 |some n=>
  obtain⟨c,b⟩:=n;obtain⟨a,i,h,k,_,_,l⟩:=j.Zf;exact .inr ⟨a,c,b,i,h,rfl,k,l⟩
def SC (s:br C st a.tmps w I rt fp) {J:Bool} (D:o.op=.lookup G b i J) (c:(sE E.tt st.h G (aR st.g b) (aR st.g i) J).K Q):Yields E C st a w I rt fp o Q:=by
 have f:=s.aR b;have t:=s.aR i;unfold sE at c;split at c
 case h_2=>exact c.elim
 rename_i O a3 R P;obtain⟨am,an,L,M,N⟩:=jo.ok R;rw[P] at t;generalize B:a.eval i=a0 at t;cases t with|val W=>
 obtain⟨_,rfl⟩:=W;split at c
 ·rename_i ad A x r;split at c
  case h_2=>exact c.elim
  rename_i Z u;cases e:a1 O A with
  |false=>rw[e] at c;exact c.elim
  |true=>
  rw[e] at c;rw[r] at f;generalize j:a.eval b=Y at f;cases f with|val V=>
  obtain⟨X,y,z⟩:=Ka (rt:=rt) (fp:=fp) (I:=I) (C:=C) (E:=E) (w:=w) (a:=a) (m:=x) L M (N.lay e) D B u (by
   rcases V.NI with⟨al,d⟩|⟨l,v,n,q,k,al,d,p⟩
   ·exact .inl ⟨al,by rw[j,d];rfl⟩
   exact .inr ⟨l,v,n,q,k,al,by rw[j,d];rfl,p⟩)
  exact .pure y (z _) c
 ·rename_i id a4 r;split at c
  case h_2=>exact c.elim
  rename_i bl F;split at c
  case h_2=>exact c.elim
  rename_i A av;split at c
  case h_2=>exact c.elim
  rename_i Z u;cases e:a1 O A with
  |false=>rw[e] at c;exact c.elim
  |true=>
  rw[e] at c;obtain⟨x,S,c⟩:=c;rw[r] at f;generalize j:a.eval b=Y at f;cases f with|ref H T=>
  rw[F] at H;cases H;obtain⟨rfl,ap,U,_⟩:=s.jk F S T;obtain⟨X,y,z⟩:=Ka (rt:=rt) (fp:=fp) (I:=I) (C:=C) (E:=E) (w:=w) (a:=a) (m:=x) L M (N.lay e) D B u (by
   rcases U.Fm with⟨al,d,_⟩|⟨l,v,n,q,k,al,d,_,p⟩
   ·exact .inl ⟨al,by rw[j,d];rfl⟩
   exact .inr ⟨l,v,n,q,k,al,by rw[j,d];rfl,p⟩)
  exact .pure y (z _) c
 exact c.elim
def sK (tt:List (TypeId×ai)) (f:List (Nat×aH)) (e:TypeId) (g:ao):gu:=
 match jo tt e with
 |none=>.bad
 |some _=>match g with
  |.val (.dB _ b) a=>.du (.val (.int .i64) (uY (α:=b.den) a)) []
  |.ref id d=>match au f id with
   |some c=>match dF c.1 d with
    |some (.mp b)=>.part (Option (List (Int×b.den)×Nat)) (λa=>c4 c.1 c.2 d (.mp b) a) (λa=>(.val (.int .i64) (uY a),[]))
    |_=>.bad
   |none=>.bad
  |_=>.bad
def Ks {q r:TypeId} (l:E.P.underlying G=some (.map q r)) (p:o.op=.call {callee:=.builtin .len,args:=#[b],argTypes:=#[G]}) {m:Option (List (Int×d.den)×Nat)} (c:(m=none/\a.eval b=.map none)\/∃f e g i k,m=some (e,g)/\a.eval b=.map (some f)/\fq (ba I C.B) w d f e g i k):(execOp a.eval o).run E.P w=.ok (.value (.int .i64 (uY m))) w:=by
 rcases c with⟨rfl,c⟩|⟨f,e,g,i,k,rfl,c,j⟩
 ·simp[execOp,p,resolve,invoke,builtin,c,Builtin.len_,run_underlying l,goInt,uY]
 have s:i.size=e.length:=(by rw[j.n,j.nk.len]);simp only[execOp,p,resolve,invoke,builtin,Sem.run_bind,Sem.run_pure,Result.andThen_ok,vO,eo,p5,c,Builtin.len_,List.getElem?_toArray,iI,run_underlying l,run_getObj_map j.h,goInt,uY,s]
def S6 (s:br C st a.tmps w I rt fp) (t:o.op=.call {callee:=.builtin .len,args:=#[b],argTypes:=#[G]}) (c:(sK E.tt st.h G (aR st.g b)).K Q):Yields E C st a w I rt fp o Q:=by
 have e:=s.aR b;unfold sK at c;split at c
 ·exact c.elim
 rename_i S y;obtain⟨J,L,x,P,R⟩:=jo.ok y;generalize f:a.eval b=T at e;split at c
 ·rename_i H F r p;rw[p] at e;cases e with|val D=>
  refine .pure (Ks (I:=I) (C:=C) (m:=r) x t ?_) (.int _ _) c;rcases D.NI with⟨al,d⟩|⟨j,q,k,n,i,al,d,l⟩
  ·exact .inl ⟨al,by rw[f,d];rfl⟩
  exact .inr ⟨j,q,k,n,i,al,by rw[f,d];rfl,l⟩
 ·rename_i id O p;split at c
  case h_2=>exact c.elim
  rename_i U u;split at c
  case h_2=>exact c.elim
  rename_i F N;obtain⟨r,z,c⟩:=c;rw[p] at e;cases e with|ref v A=>
  rw[u] at v;cases v;obtain⟨rfl,M,B,_⟩:=s.jk u z A;refine .pure (Ks (I:=I) (C:=C) (m:=r) x t ?_) (.int _ _) c;rcases B.Fm with⟨al,d,_⟩|⟨j,q,k,n,i,al,d,_,l⟩
  ·exact .inl ⟨al,by rw[f,d];rfl⟩
  exact .inr ⟨j,q,k,n,i,al,by rw[f,d];rfl,l⟩
 exact c.elim
end
end
section
section
variable {E:dR} {C:dn} {st:aO} {a:Act} {w:World} {I:Nat->Prop} {rt:Nat->ac1} {fp:Nat->ac7} {o:Oper} {Q:ao->List (Nat×aH)->Prop}
def Ch (b c d:ao):gu:=
 match b with
 |.val .bool b=>.part Bool (λa=>b=a) (λa=>(match a with|true=>c|false=>d,[]))
 |_=>.bad
def Wn (e:br C st a.tmps w I rt fp) {d:Operand} (j:o.op=.pick b i d) (c:(Ch (aR st.g b) (aR st.g i) (aR st.g d)).K Q):Yields E C st a w I rt fp o Q:=by
 have f:=e.aR b;unfold Ch at c;split at c
 case h_2=>exact c.elim
 rename_i h l;obtain⟨h,rfl,c⟩:=c;rw[l] at f;generalize k:a.eval b=n at f;cases f with|val m=>
 obtain⟨_,rfl⟩:=m;cases h
 ·exact .pure (v:=a.eval d) (by simp[execOp,j,k,bG,asBool]) (e.aR d) c
 exact .pure (v:=a.eval i) (by simp[execOp,j,k,bG,asBool]) (e.aR i) c
def GM (e:UnOp) (c:ao):gu:=
 match e,c with
 |.neg,.val (.int a) c=>.part Int (λb=>a.wrap (0-c)=b) (λb=>(.val (.int a) b,[]))
 |.xor,.val (.int a) c=>.part Int (λb=>a.wrap (BitVec.ofInt a.bits (if a.signed then-1 else a.max)^^^BitVec.ofInt a.bits c).toNat=b) (λb=>(.val (.int a) b,[]))
 |.not,.val .bool d=>.du (.val .bool (!d)) []
 |_,_=>.bad
def YT (l:br C st a.tmps w I rt fp) {k:UnOp} (i:o.op=.unOp k G b) (c:(GM k (aR st.g b)).K Q):Yields E C st a w I rt fp o Q:=by
 have d:=l.aR b;unfold GM at c;generalize j:a.eval b=p at d;split at c
 ·rename_i f m e;obtain⟨n,rfl,c⟩:=c;rw[e] at d;cases d with|val h=>
  obtain⟨_,rfl⟩:=h;exact .pure (v:=.int f _) (by simp only[execOp,i,j,bG,Op.unary,Op.intArith];rfl) (.int f _) c
 ·rename_i f m e;obtain⟨n,rfl,c⟩:=c;rw[e] at d;cases d with|val h=>
  obtain⟨_,rfl⟩:=h;exact .pure (v:=.int f _) (by simp only[execOp,i,j,bG,Op.unary,Op.intBits];rfl) (.int f _) c
 ·rename_i q e;rw[e] at d;cases d with|val h=>
  obtain⟨_,rfl⟩:=h;exact .pure (v:=.bool _) (by simp only[execOp,i,j,bG,Op.unary];rfl) (.bool _) c
 exact c.elim
def zt (tt:List (TypeId×ai)) (e d:TypeId) (a:ao):gu:=
 match au tt e,au tt d,a with
 |some (.int _),some (.int c),.val (.int _) a=>.part Int (λb=>c.wrap a=b) (λb=>(.val (.int c) b,[]))
 |_,_,_=>.bad
def Qb (k:br C st a.tmps w I rt fp) {e:TypeId} (l:o.op=.convert e G b) (c:(zt E.tt e G (aR st.g b)).K Q):Yields E C st a w I rt fp o Q:=by
 have d:=k.aR b;unfold zt at c;split at c
 case h_2=>exact c.elim
 rename_i s f t u i j h;obtain⟨x,rfl,c⟩:=c;generalize m:a.eval b=r at d;rw[h] at d;cases d with|val n=>
 obtain⟨_,rfl⟩:=n;obtain⟨_,_,_,_,_,p⟩:=E.ok e _ i;obtain⟨_,_,_,_,_,q⟩:=E.ok G _ j;exact .pure (v:=.int f _) (by simp[execOp,l,m,bG,convert,run_underlying p,run_underlying q,Conv.intToInt]) (.int f _) c
def oF (c:ByteArray) (a:Int):ac2:=if 0<=a then(c[a.toNat]?).map λb=>(b.toNat:Int) else none
def BL:ByteArray:=⟨#[0,1,2,2,3,3,3,3,4,4,4,4,4,4,4,4,5,5,5,5,5,5,5,5,5,5,5,5,5,5,5,5,6,6,6,6,6,6,6,6,6,6,6,6,6,6,6,6,6,6,6,6,6,6,6,6,6,6,6,6,6,6,6,6,7,7,7,7,7,7,7,7,7,7,7,7,7,7,7,7,7,7,7,7,7,7,7,7,7,7,7,7,7,7,7,7,7,7,7,7,7,7,7,7,7,7,7,7,7,7,7,7,7,7,7,7,7,7,7,7,7,7,7,7,7,7,7,7,8,8,8,8,8,8,8,8,8,8,8,8,8,8,8,8,8,8,8,8,8,8,8,8,8,8,8,8,8,8,8,8,8,8,8,8,8,8,8,8,8,8,8,8,8,8,8,8,8,8,8,8,8,8,8,8,8,8,8,8,8,8,8,8,8,8,8,8,8,8,8,8,8,8,8,8,8,8,8,8,8,8,8,8,8,8,8,8,8,8,8,8,8,8,8,8,8,8,8,8,8,8,8,8,8,8,8,8,8,8,8,8,8,8,8,8,8,8,8,8,8,8,8,8,8,8,8,8]⟩
def CF (tt:List (TypeId×ai)) (d:TypeId) (f e:ao):gu:=
 match au tt d,f,e with
 |some .str,.bQ (.string c),.val (.int _) b=>.part Int (λa=>oF c b=some a) (λa=>(.val (.int .u8) a,[]))
 |some .str,.val .str c,.val (.int _) b=>.part Int (λa=>oF c b=some a) (λa=>(.val (.int .u8) a,[]))
 |_,_,_=>.bad
def Ym (y:br C st a.tmps w I rt fp) (D:o.op=.index G i b) (n:(CF E.tt G (aR st.g i) (aR st.g b)).K Q):Yields E C st a w I rt fp o Q:=by
 have j:=y.aR i;have h:=y.aR b;have x:∀(f:ByteArray) (k:IntKind) (e c:Int),au E.tt G=some .str->a.eval i=.string f->a.eval b=.int k e->oF f e=some c->Q (.val (.int .u8) c) []->Yields E C st a w I rt fp o Q:=by
  intro f k e c p m l d q;obtain⟨_,_,_,_,_,u⟩:=E.ok G _ p;refine .pure (v:=.int .u8 c) ?_ (.int .u8 c) q;unfold oF at d;split at d
  case isFalse=>cases d
  rename_i A;obtain⟨H,B,rfl⟩:=dY.1 d;simp[execOp,D,Instr.index,m,l,asIntOf,run_underlying u,A,B]
 unfold CF at n;split at n
 ·rename_i f k e p m l;obtain⟨c,d,q⟩:=n;rw[m] at j;rw[l] at h;generalize s:a.eval i=z at j;generalize r:a.eval b=u at h;cases j;cases h with|val t=>
  obtain⟨_,rfl⟩:=t;exact x f k e c p s r d q
 ·rename_i f k e p m l;obtain⟨c,d,q⟩:=n;rw[m] at j;rw[l] at h;generalize s:a.eval i=z at j;generalize r:a.eval b=u at h;cases j with|val F=>
  obtain⟨_,rfl⟩:=F;cases h with|val t=>
  obtain⟨_,rfl⟩:=t;exact x f k e c p s r d q
 exact n.elim
def Bm (d:ao) (c:Nat):gu:=
 match d with
 |.dv b=>match b[c]? with
  |some a=>.du a []
  |none=>.bad
 |_=>.bad
def Rd (k:br C st a.tmps w I rt fp) (n:o.op=.extract b c) (d:(Bm (aR st.g b) c).K Q):Yields E C st a w I rt fp o Q:=by
 have f:=k.aR b;unfold Bm at d;generalize p:a.eval b=q at f;split at d
 case h_2=>exact d.elim
 rename_i s j;split at d
 case h_2=>exact d.elim
 rename_i i h;rw[j] at f;cases f with|dv r l=>
 rename_i e;have m:c<e.size:=(by have:=(ec.1 h).1;omega);have:e[c]?=some e[c]:=vB m;exact .pure (v:=e[c]) (by simp[execOp,n,p,Instr.extract,this]) (l c i _ h this) d
def u3 (c:Bool) (a:ao):List ao->gu
 |[]=>.du a []
 |y::d=>match a,y with
  |.val (.int b) a,.val (.int e) y=>if b=e then(match c with|true=>u3 c (.val (.int b) (if y>a then y else a)) d|false=>u3 c (.val (.int b) (if y<a then y else a)) d) else .bad
  |_,_=>.bad
def BW (j:br C st a.tmps w I rt fp) (m:Bool):∀(e:List Operand) (i:ao) (f:Value),bC (ba I C.B) w st.h rt fp i f->(u3 m i (e.map (aR st.g))).K Q->∃d c,((e.map a.eval).foldlM (match m with|true=>Builtin.max2|false=>Builtin.min2) f).run E.P w=.ok d w/\bC (ba I C.B) w st.h rt fp c d/\Q c []
 |[],i,f,k,b=>⟨f,i,rfl,k,b⟩
 |y::e,i,f,k,b=>by
  have l:=j.aR y;simp only[eo,u3] at b;generalize p:a.eval y=A at l;split at b
  case h_2=>exact b.elim
  rename_i q x v z r;split at b
  case isFalse=>exact b.elim
  rename_i s;subst s;rw[r] at l;cases k with|val t=>cases l with|val u=>
  obtain⟨_,rfl⟩:=t;obtain⟨_,rfl⟩:=u;cases m
  ·obtain⟨d,c,aw,n,o⟩:=BW j false e _ _ (.int q _) b;refine⟨d,c,?_,n,o⟩;simp only[eo,List.foldlM_cons,p,Sem.run_bind];exact aw
  obtain⟨d,c,aw,n,o⟩:=BW j true e _ _ (.int q _) b;refine⟨d,c,?_,n,o⟩;simp only[eo,List.foldlM_cons,p,Sem.run_bind];exact aw
def ES:ao->Bool
 |.val _ _|.bQ _|.df _ _=>true
 |_=>false
def e6 (tt:List (TypeId×ai)) (i:List (Nat×ai)) (d:List (Nat×aH)) (b:Operand->ao) (g:Nat) (h:Op):gu:=
 match h with
 |.move a=>.du (b a) []
 |.assign a=>bif ES (b a) then .du (b a) [] else .bad
 |.pick f a n=>Ch (b f) (b a) (b n)
 |.alloc c=>tK tt i d g c
 |.box c a=>v9 tt d g c (b a)
 |.build c l=>v8 tt b c l.toList
 |.buildSlice c e l=>tU tt i d b g c e l.toList
 |.load c a=>sD tt d c (b a)
 |.nilCheck a=>sN d (b a)
 |.binOp h c a n _=>match b a,b n with
  |.val .bool x,.val .bool y=>match au tt c with
   |some .bool=>Dx h (.val .bool x) (.val .bool y)
   |_=>.bad
  |.val (.int k) v,.val (.int s) e=>ke h k v s e
  |_,_=>.bad
 |.unOp h _ a=>GM h (b a)
 |.convert z g a=>zt tt z g (b a)
 |.makeSlice c t f=>sH tt i d g c (b t) (b f)
 |.slice c a u r none=>s9 tt d c (b a) (u.map b) (r.map b)
 |.fieldAddr c a e=>sq tt d c (b a) e
 |.field c a e=>uJ tt d c (b a) e
 |.indexAddr c a j=>sx tt d c (b a) (b j)
 |.index c a j=>CF tt c (b a) (b j)
 |.extract a e=>Bm (b a) e
 |.call f=>match f.callee,f.args.toList,f.argTypes.toList with
  |.builtin .len,[a],[c]=>match eX tt c with
   |some _=>sC tt d c (b a)
   |none=>sK tt d c (b a)
  |.builtin .max,a::m,_=>u3 true (b a) (m.map b)
  |.builtin .min,a::m,_=>u3 false (b a) (m.map b)
  |_,_,_=>.bad
 |.makeMap c none=>u2 tt i d g c
 |.lookup c a k w=>sE tt d c (b a) (b k) w
 |.makeFunc (.func p) q o=>bif q.isEmpty then .du (.df p (o.toList.map b)) [] else .bad
 |_=>.bad
def QQ (e:br C st a.tmps w I rt fp) (d:(e6 E.tt j st.h (aR st.g) c o.op).K Q):Yields E C st a w I rt fp o Q:=by
 unfold e6 at d;split at d
 ·rename_i f b;exact .pure (v:=a.eval f) (by simp[execOp,b]) (e.aR f) d
 ·rename_i f b;cases B:ES (aR st.g f) with
  |false=>rw[B] at d;exact d.elim
  |true=>rw[B] at d;exact .pure (v:=a.eval f) (by simp[execOp,b]) (e.aR f) d
 ·rename_i b;exact Wn e b d
 ·rename_i b;exact O1 e b d
 ·rename_i b;exact Py e b d
 ·rename_i b;exact Pv e b d
 ·rename_i b;exact PC e b d
 ·rename_i b;exact Sz e b d
 ·rename_i b;exact Ti e b d
 ·rename_i X n f u Y b;split at d
  ·rename_i P R m p;split at d
   ·rename_i M;refine H1 e b (λ_ _ _ _=>?_) (by rw[m,p];exact d);exact(E.ok n _ M).choose_spec.2.2.2.2
   exact d.elim
  ·rename_i m p;refine H1 e b (λP R _ D=>?_) (by rw[m,p];exact d);rw[m] at D;cases D.1
  exact d.elim
 ·rename_i b;exact YT e b d
 ·rename_i b;exact Qb e b d
 ·rename_i b;exact SM e b d
 ·rename_i b;exact X2 e b d
 ·rename_i b;exact Rm e b d
 ·rename_i b;exact Ro e b d
 ·rename_i b;exact RU e b d
 ·rename_i b;exact Ym e b d
 ·rename_i b;exact Rd e b d
 ·rename_i G b;obtain⟨U,i,x⟩:=G;simp only at d;split at d
  ·rename_i f n al V;have k:i=#[f]:=(by cases i;simp_all);have J:x=#[n]:=(by cases x;simp_all);subst k;subst J;split at d
   ·exact St e b d
   exact S6 e b d
  ·rename_i f l al;have k:i=(f::l).toArray:=(by cases i;simp_all);obtain⟨t,F,aw,r,s⟩:=BW (E:=E) e true l _ _ (e.aR f) d;refine .pure (v:=t) ?_ r s;simp only[execOp,b,resolve,invoke,builtin,Sem.run_bind,Sem.run_pure,Result.andThen_ok,k,Builtin.max_];simp only[vO,eo,aw];rfl
  ·rename_i f l al;have k:i=(f::l).toArray:=(by cases i;simp_all);obtain⟨t,F,aw,r,s⟩:=BW (E:=E) e false l _ _ (e.aR f) d;refine .pure (v:=t) ?_ r s;simp only[execOp,b,resolve,invoke,builtin,Sem.run_bind,Sem.run_pure,Result.andThen_ok,k,Builtin.min_];simp only[vO,eo,aw];rfl
  exact d.elim
 ·rename_i b;exact S4 e b d
 ·rename_i b;exact SC e b d
 ·rename_i L y H b;cases q:y.isEmpty with
  |false=>rw[q] at d;exact d.elim
  |true=>
   rw[q] at d;obtain rfl:y=#[]:=(by simpa using q);refine .pure (v:=.func (.func L) #[] (H.map a.eval)) (by simp[execOp,b,Instr.makeFunc]) (.df ab (λW f T z A=>?_)) d;rw[eT] at z;rw[Array.getElem?_map] at A;obtain⟨u,N,rfl⟩:=dY.1 z;obtain⟨S,O,rfl⟩:=dY.1 A;obtain rfl:u=S:=(by simpa[O] using N.symm);exact e.aR u
 exact d.elim
end
end
def c9 (b:Nat) (a:ac7):Bool:=a.any λc=>Nat.beq c b
def ej:c9 c m=true↔c∈m:=by
 simp only[c9,nM];constructor
 ·rintro⟨d,b,a⟩;rw[<-ep a];exact b
 exactλa=>⟨c,a,p7 c⟩
def ao.dK (a:ac7) (b:ao):Bool:=b.ids.any λc=>c9 c a
def s8:List aW->Option (List aW)
 |.unst::a=>(s8 a).map λb=>.unst::b
 |.fst::_=>some [.snd]
 |.snd::_=>some [.fst]
 |_=>none
def pL:List aW->List aW->Option (List aW)
 |p,[]=>s8 p
 |.idx _::p,.idx _::a=>pL p a
 |.deref::p,.deref::a=>pL p a
 |.unst::p,.unst::a=>pL p a
 |.fst::p,.fst::a=>pL p a
 |.snd::p,.snd::a=>pL p a
 |_,_=>none
def EU (a b:List aW):Bool:=fj a b||(pL a b).isSome
def M5:∀{p b:List aW},s8 p=some b->fj p b=true
 |.unst::p,b,a=>by obtain⟨d,c,rfl⟩:=dY.1 a;exact M5 (p:=p) c
 |.fst::_,_,a=>by cases a;rfl
 |.snd::_,_,a=>by cases a;rfl
 |[],_,a=>by cases a
 |.idx _::_,_,a=>by cases a
 |.deref::_,_,a=>by cases a
def M4:∀{q p b:List aW},pL p q=some b->fj p (q++b)=true
 |[],p,b,a=>by have c:s8 p=some b:=(by cases p<;>exact a);exact M5 c
 |s::q,p,b,a=>by
  cases p with
  |nil=>cases s<;>cases a
  |cons d p=>cases s<;>cases d<;>first|(cases a;done)|exact M4 (q:=q) (p:=p) a
def M6:∀{p e:List aW} {τ h:ai},dF τ p=some h->s8 p=some e->∃(o:ai) (m:Nat),∀(i:World) (b:Loc) (g:ac1),∃k,aS i τ b g e o (b.map λd=>(d.1,d.2+m)) k
 |.unst::p,e,τ,h,c,a=>by
  obtain⟨q,l,rfl⟩:=dY.1 a;cases τ with
  |st n=>exact M6 (p:=p) (τ:=n) c l
  |_=>cases c
 |.fst::p,e,τ,h,c,a=>by
  cases a;cases τ with
  |pr f j=>exact⟨j,f.size,λi b g=>⟨_,aS.here⟩⟩
  |_=>cases c
 |.snd::p,e,τ,h,c,a=>by
  cases a;cases τ with
  |pr f j=>
   refine⟨f,0,λi b g=>⟨g.take f.size,?_⟩⟩;have:(b.map λd=>(d.1,d.2+0))=b:=(by cases b<;>rfl);rw[this];exact aS.here
  |_=>cases c
 |[],_,_,_,_,a=>by cases a
 |.idx _::_,_,_,_,_,a=>by cases a
 |.deref::_,_,_,_,_,a=>by cases a
def vr {o:World}:∀{q p d:List aW} {e f:ai} {j:Loc} {i:ac1} {g:ai} {k:Loc} {h:ac1},dF e p=some f->pL p q=some d->aS o e j i q g k h->∃l,dF g l=some f/\s8 l=some d
 |[],p,d,e,f,j,i,g,k,h,c,b,a=>by obtain⟨rfl,_,_⟩:=aS.eQ.1 a;have m:s8 p=some d:=(by cases p<;>exact b);exact⟨p,c,m⟩
 |s::q,p,d,e,f,j,i,g,k,h,c,b,a=>by
  cases p with
  |nil=>cases s<;>cases b
  |cons n p=>
   cases e<;>cases s<;>simp only[aS] at a<;>cases n<;>first|(cases b;done)|skip
   case osl.idx.idx=>obtain⟨_,_,_,_,_,_,_,_,_,a⟩:=a;exact vr (q:=q) (p:=p) c b a
   case optr.deref.deref=>obtain⟨_,_,_,_,_,_,a⟩:=a;exact vr (q:=q) (p:=p) c b a
   case st.unst.unst=>exact vr (q:=q) (p:=p) c b a
   case pr.fst.fst=>exact vr (q:=q) (p:=p) c b a
   case pr.snd.snd=>exact vr (q:=q) (p:=p) c b a
def aS.split {u:World}:∀{q j:List aW} {d k:ai} {g i:Loc} {f h:ac1},aS u d g f (q++j) k i h->∃e c b,aS u d g f q e c b/\aS u e c b j k i h
 |[],j,d,k,g,i,f,h,a=>⟨d,g,f,aS.here,a⟩
 |s::q,j,d,k,g,i,f,h,a=>by
  rw[jc] at a;cases d<;>cases s<;>simp only[aS] at a
  case osl.idx=>
   obtain⟨l,t,x,v,m,al,n,o,w,a⟩:=a;obtain⟨e,c,b,p,r⟩:=aS.split (q:=q) a;exact⟨e,c,b,⟨l,t,x,v,m,al,n,o,w,p⟩,r⟩
  case optr.deref=>
   obtain⟨l,t,m,al,n,o,a⟩:=a;obtain⟨e,c,b,p,r⟩:=aS.split (q:=q) a;exact⟨e,c,b,⟨l,t,m,al,n,o,p⟩,r⟩
  case st.unst=>exact aS.split (q:=q) a
  case pr.fst=>exact aS.split (q:=q) a
  case pr.snd=>exact aS.split (q:=q) a
def aS.upper {f D:List aW} (A:dF d f=some Q) (m:pL f l=some D) (b:aS e d none B l q (some (c,h)) g) (z:∀(l:List aW) (q:ai) (p:Loc) (g:ac1),fj f l=true->aS e d none B l q p g->aS n d none B l q p g):∃s,aS n d none B l q (some (c,h)) s:=by
 obtain⟨J,u,v⟩:=vr A m b;obtain⟨L,I,k⟩:=M6 u v;obtain⟨F,w⟩:=k e (some (c,h)) g;obtain⟨K,o,i,j,x⟩:=aS.split (z _ _ _ _ (M4 m) (b.append w));have al:=j.ty;rw[b.ty] at al;obtain rfl:=ee al;obtain⟨G,y⟩:=k n o i;obtain⟨_,a,_⟩:=x.ij y;cases o with
 |none=>cases a
 |some E=>
  obtain⟨r,C⟩:=E;simp only[fd,bF,fe] at a;obtain⟨t,H⟩:=a;obtain rfl:c=r:=t;obtain rfl:h=C:=U;exact⟨i,j⟩
def jR (c:List (Nat×List aW)):ao->Bool
 |.ref id []=>c.any λa=>Nat.beq a.1 id
 |.ref id b=>c.any λa=>Nat.beq a.1 id&&fj a.2 b
 |.addr id b=>c.any λa=>Nat.beq a.1 id&&EU a.2 b
 |.view id b _ _=>c.any λa=>Nat.beq a.1 id&&fj a.2 b
 |_=>false
def hM (c:ac7) (b:List (Nat×List aW)):ao->Bool
 |.df _ f=>f.all λa=>!(a.dK c)||jR b a
 |.app id h _ _ g=>(g.all λe=>!(c9 e c))&&b.any λd=>Nat.beq d.1 id&&jf d.2 h
 |a=>jR b a
def dr (b:ac7) (c:List (Nat×List aW)) (a:ao):ao:=bif a.dK b&&!(hM b c a) then .dead else a
def ef (b:ac7) (c:List (Nat×List aW)):ao->ao
 |.dv d=>.dv (d.map (dr b c))
 |a=>dr b c a
def kill (b:ac7) (d:List (Nat×List aW)) (c:List (Nat×ao)):List (Nat×ao):=c.map λa=>(a.1,ef b d a.2)
def del (a:ac7) (b:List (Nat×aH)):List (Nat×aH):=b.filter λc=>!(c9 c.1 a)
def BI (a:List aW):fj [] a=false:=by cases a<;>simp[fj,ng]
def uQ (b:ac7):List (Nat×List aW):=b.map λa=>(a,[])
def nf (c:ac7) (e:List (Nat×List aW)):∀(d:List (Nat×ao)) (b:Nat),gt (kill c e d) b=ef c e (gt d b)
 |[],b=>by simp[kill,gt,au,ef,dr,ao.dK,ao.ids]
 |(f,a)::d,b=>by
  show gt ((f,ef c e a)::kill c e d) b=_;rw[hj,hj];split
  ·rfl
  exact nf c e d b
def jT (b:ac7):∀(d:List (Nat×aH)) (a:Nat),au (del b d) a=if a∈b then none else au d a
 |[],a=>by simp[del,au]
 |(e,t)::d,a=>by
  have g:=jT b d a;simp only[del] at g|-;rw[jD];cases f:c9 e b with
  |true=>
   have:e∈b:=ej.1 f;simp only[eS,Bool.false_eq_true,if_false];rw[g,bU];by_cases c:e=a
   ·subst c;rw[aj this,aj this]
   rw[ag c]
  |false=>
   have:e∉b:=λd=>(by rw[ej.2 d] at f;cases f);simp only[fW,if_true];rw[bU,bU,g];by_cases c:e=a
   ·subst c;rw[aj rfl,aj rfl,ag this]
   rw[ag c,ag c]
def GO (a:R.dK m=false):∀id∈R.ids,id∉m:=λid c b=>by have:R.dK m=true:=(by simp only[ao.dK,nM];exact⟨id,c,ej.2 b⟩);rw[a] at this;cases this
structure lA (C:dn) (st:aO) (w w':World) (I I':Nat->Prop) (rt:Nat->ac1) (fp:Nat->ac7) (S:ac7) (JY:List (Nat×List aW)) (new:List (Nat×aH)) (rtn:Nat->ac1) (fpn:Nat->ac7):Prop where
 size:w.heap.size<=w'.heap.size
 os:w'.os=w.os
 tape:w'.tape=w.tape
 output:w'.output=w.output
 heap:∀b,b<w.heap.size->(∀id∈S,∀t,au st.h id=some t->b∉fp id)->w'.heap[b]?=w.heap[b]?
 evo:∀b,b<w.heap.size->i7 w w' b
 i:∀b,I b->I' b
 i2:∀b,I' b->I b\/(b<w'.heap.size/\(w.heap.size<=b\/∃id∈S,∃t,au st.h id=some t/\b∈fp id))
 tree:∀id t,au new id=some t->(id∈S\/au st.h id=none)/\aP (ba I' C.B) w' t.1 (rtn id) t.2 (fpn id)/\(fpn id).Nodup/\∀b∈fpn id,¬I' b/\b<w'.heap.size/\(w.heap.size<=b\/∃JH∈S,∃t',au st.h JH=some t'/\b∈fp JH)
 dis:∀i j t u,au new i=some t->au new j=some u->i≠j->∀b∈fpn i,b∉fpn j
 keep:∀e∈JY,∀t,au st.h e.1=some t->∃t',au new e.1=some t'/\t'.1=t.1/\rtn e.1=rt e.1/\(∃Zx,dF t.1 e.2=some Zx)/\∀(q:List aW) (NU:ai) (Ke:Loc) (Iw:ac1),fj e.2 q=true->aS w t.1 none (rt e.1) q NU Ke Iw->aS w' t.1 none (rt e.1) q NU Ke Iw
 app:∀e∈JY,∀t,au st.h e.1=some t->∀(q:List aW) (τ:ai) (xs:List τ.den) (loc:Loc) (wa:ac1) (f1:ac7),jf e.2 q=true->τ.il=true->aS w t.1 none (rt e.1) q (.osl τ) loc wa->c4 t.1 t.2 q (.osl τ) xs->aP (ba I C.B) w (.osl τ) wa xs f1->∃t',au new e.1=some t'/\c4 t'.1 t'.2 q (.osl τ) xs/\∀b∈f1,b∈fpn e.1/\bN w w' b
def br.eI {w':World} {I':Nat->Prop} {rtn:Nat->ac1} {fpn:Nat->ac7} {S:ac7} {keep:List (Nat×List aW)} {new:List (Nat×aH)} (j:br H A x e k o p) (r:lA H A e w' k I' o p S keep new rtn fpn):br H ⟨kill S keep A.g,new++del S A.h⟩ x w' I' (dz new rtn o) (dz new fpn p):=by
 have a3:∀av a,ba k H.B av a->ba I' H.B av a/\bN e w' a:=λav a b=>by
  refine⟨?_,.of_heap (r.heap a (j.ib a (lM b)) (λid _ d f f1=>j.notM f a f1 av b))⟩;cases av
  ·exact r.i a b
  exact b.imp (r.i a) id
 have dl:∀id d,au (new++del S A.h) id=some d->(au new id=some d/\dz new rtn o id=rtn id/\dz new fpn p id=fpn id)\/(au new id=none/\id∉S/\au A.h id=some d/\dz new rtn o id=o id/\dz new fpn p id=p id):=λid d f=>by
  rw[iB,jT] at f;cases C:au new id with
  |none=>
   rw[C] at f;simp only[Option.none_or] at f;split at f
   ·cases f
   rename_i F;exact .inr ⟨rfl,F,f,by simp[dz,C],by simp[dz,C]⟩
  |some r=>rw[C] at f;exact .inl ⟨by simpa using f,by simp[dz,C],by simp[dz,C]⟩
 have cv:∀id d,au A.h id=some d->id∉S->∀a∈p id,bN e w' a:=λid d f F a b=>.of_heap (r.heap a ((j.tree id d f).2.2 a b).2.2.1 (λN P u M G=>
  j.dis id N d u f M (λc=>F (by rw[c];exact P)) a b G))
 have fT:∀id d,au A.h id=some d->id∉S->∀a∈p id,¬I' a:=λid d f F a b s=>by
  have m:=(j.tree id d f).2.2 a b;rcases r.i2 a s with s|⟨_,s|⟨N,P,u,M,G⟩⟩
  ·exact m.1 s
  ·omega
  exact j.dis id N d u f M (λc=>F (by rw[c];exact P)) a b G
 refine{n:=j.n,i0:=λa b=>r.i a (j.i0 a b),i1:=?_,ib:=?_,tree:=?_,dis:=?_,tmp:=?_,frame:=?_,evo:=λa b=>(j.evo a b).trans (r.evo a (gM b j.size)),size:=db j.size r.size,os:=r.os.trans j.os,tape:=r.tape.trans j.tape,output:=r.output.trans j.output,pin:=j.pin}
 ·intro a b;rcases r.i2 a b with b|⟨_,b|⟨N,P,u,M,G⟩⟩
  ·exact j.i1 a b
  ·exact .inr (.inl (db j.size b))
  exact .inr ((j.tree N u M).2.2 a G).2.2.2
 ·intro a b;rcases b with b|b
  ·rcases r.i2 a b with b|⟨b,_⟩
   ·exact gM (j.ib a (.inl b)) r.size
   exact b
  exact gM (j.ib a (.inr b)) r.size
 ·intro id d f;rcases dl id d f with⟨v,q,y⟩|⟨fs,F,v,q,y⟩
  ·obtain⟨_,aw,E,z⟩:=r.tree id d v;rw[q,y];refine⟨aw,E,λa b=>?_⟩;obtain⟨ad,am,W⟩:=z a b;rcases W with W|⟨N,P,u,M,G⟩
   ·exact⟨ad,λfz=>by have:=j.ib a (.inr fz);omega,am,.inl (db j.size W)⟩
   have m:=(j.tree N u M).2.2 a G;exact⟨ad,m.2.1,am,m.2.2.2⟩
  obtain⟨aw,E,z⟩:=j.tree id d v;rw[q,y];refine⟨aw.mono a3 (cv id d v F),E,λa b=>?_⟩;obtain⟨ad,am,W,aK⟩:=z a b;exact⟨fT id d v F a b,am,gM W r.size,aK⟩
 ·intro l Y d J s f3 ek a b;rcases dl l d s with⟨v,_,y⟩|⟨fs,F,v,_,y⟩<;>rcases dl Y J f3 with⟨Z,_,ex⟩|⟨hc,f6,Z,_,ex⟩<;>rw[y] at b<;>rw[ex]
  ·exact r.dis l Y d J v Z ek a b
  ·intro G;rcases((r.tree l d v).2.2.2 a b).2.2 with m|⟨N,P,u,M,cs⟩
   ·have:=((j.tree Y J Z).2.2 a G).2.2.1;omega
   exact j.dis Y N J u Z M (λc=>f6 (by rw[c];exact P)) a G cs
  ·intro G;rcases((r.tree Y J Z).2.2.2 a G).2.2 with m|⟨N,P,u,M,cs⟩
   ·have:=((j.tree l d v).2.2 a b).2.2.1;omega
   exact j.dis l N d u v M (λc=>F (by rw[c];exact P)) a b cs
  exact j.dis l Y d J v Z ek a b
 ·intro bl;show bC _ _ _ _ _ (gt (kill S keep A.g) bl) _;rw[nf];have D:=j.tmp bl;generalize gt A.g bl=w at D;generalize x.getD bl undef=O at D;suffices d6:∀(w:ao) (O:Value),bC (ba k H.B) e A.h o p w O->bC (ba I' H.B) w' (new++del S A.h) (dz new rtn o) (dz new fpn p) (dr S keep w) O by
   cases w with
   |dv f7=>
    cases D with|dv d0 C=>
    refine .dv (by simp[d0]) (λl a0 J v q=>?_);rw[eT] at v;obtain⟨d5,y,rfl⟩:=dY.1 v;exact d6 d5 J (C l d5 J y q)
   |_=>exact d6 _ _ D
  clear D;have ci:∀(w:ao) (O:Value),bC (ba k H.B) e A.h o p w O->w.dK S=false\/jR keep w=true->bC (ba I' H.B) w' (new++del S A.h) (dz new rtn o) (dz new fpn p) w O:=by
   intro w O D f5;cases a4:w.dK S with
   |false=>
    refine D.qX a3 (λid ds d f=>?_);have F:=GO a4 id ds;have X:au new id=none:=by
     cases C:au new id with
     |none=>rfl
     |some d4=>
      rcases(r.tree id d4 C).1 with m|m
      ·exact absurd m F
      rw[f] at m;cases m
    refine⟨by rw[iB,X,jT,ag F];simpa using f,by simp[dz,X],by simp[dz,X],(j.tree id d f).1,cv id d f F⟩
   |true=>
    have Q:jR keep w=true:=f5.resolve_left (by rw[a4];exactλj=>by cases j);have bs:∀(id:Nat) (d:aH),au A.h id=some d->∀c∈keep,c.1=id->∃u,au (new++del S A.h) id=some u/\u.1=d.1/\dz new rtn o id=o id/\(∃gl,dF d.1 c.2=some gl)/\
     ∀(m:List aW) (fp:ai) (fn:Loc) (co:ac1),fj c.2 m=true->aS e d.1 none (o id) m fp fn co->aS w' d.1 none (o id) m fp fn co:=by
     intro id d f c I ds;subst ds;obtain⟨u,aw,E,z,V,T⟩:=r.keep c I _ f;exact⟨u,by rw[iB,aw];rfl,E,by simp[dz,aw,z],V,T⟩
    have d7:∀(id:Nat) (m:List aW),(keep.any λc=>Nat.beq c.1 id&&fj c.2 m)=true->∃c∈keep,c.1=id/\fj c.2 m=true:=(by intro id m C;obtain⟨c,I,q⟩:=nM.1 C;simp only[bc] at q;exact⟨c,I,ep q.1,q.2⟩);cases w with
    |ref id U=>
     cases U with
     |nil=>
      obtain⟨c,I,q⟩:=nM.1 (show(keep.any λc=>Nat.beq c.1 id)=true from Q);have q:=ep q;cases D with|ref f K=>
      obtain⟨rfl,rfl,rfl⟩:=aS.eQ.1 K;obtain⟨u,aw,E,z,_⟩:=bs id _ f c I q;rw[<-E];refine .ref (loc:=none) aw ?_;rw[z];exact aS.here
     |cons gf U=>
      obtain⟨c,I,q,y⟩:=d7 id (gf::U) Q;cases D with|ref f K=>
      obtain⟨u,aw,E,z,V,T⟩:=bs id _ f c I q;have L:=T _ _ _ _ y K;rw[<-z,<-E] at L;exact .ref aw L
    |addr id U=>
     obtain⟨c,I,q⟩:=nM.1 (show(keep.any λc=>Nat.beq c.1 id&&EU c.2 U)=true from Q);simp only[bc] at q;obtain⟨q,y⟩:=q;have q:=ep q;cases D with|addr f K=>
     obtain⟨u,aw,E,z,V,T⟩:=bs id _ f c I q;rcases Bool.or_eq_true_iff.1 y with y|y
     ·have L:=T _ _ _ _ y K;rw[<-z,<-E] at L;exact .addr aw L
     obtain⟨hr,R⟩:=Db.1 y;obtain⟨_,V⟩:=V;obtain⟨co,L⟩:=aS.upper V R K T;rw[<-z,<-E] at L;exact .addr aw L
    |view id U hi s=>
     obtain⟨c,I,q,y⟩:=d7 id U Q;cases D with|kn=>(exact .kn _ _)|view f K f8 f9 gc=>
     obtain⟨u,aw,E,z,V,T⟩:=bs id _ f c I q;have L:=T _ _ _ _ y K;rw[<-z,<-E] at L;exact .view aw L f8 f9 gc
    |_=>cases Q
  intro w O D;unfold dr;cases a4:w.dK S with
  |false=>simp only[Bool.false_and,cond_false];exact ci w O D (.inl a4)
  |true=>
   cases Q:hM S keep w with
   |false=>simp only[fW,Bool.and_self,cond_true];exact .dead _
   |true=>
    simp only[eS,Bool.and_false,cond_false];cases w with
    |df go f7=>
     cases D with|df d0 C=>
     refine .df d0 (λl a0 J v q=>ci a0 J (C l a0 J v q) ?_);have:=eJ.1 Q a0 (kt v);simpa using this
    |app id m gi hv d3=>
     cases D with|app f em K f2 v gs q d2 eq f4=>
     have R:((d3.all λl=>!(c9 l S))&&keep.any λc=>Nat.beq c.1 id&&jf c.2 m)=true:=Q;rw[bc] at R;obtain⟨an,R⟩:=R;have an:∀l∈d3,l∉S:=λl s d1=>(by have:=eJ.1 an l s;rw[ej.2 d1] at this;cases this);obtain⟨c,I,R⟩:=nM.1 R;simp only[bc] at R;obtain⟨f0,d9⟩:=R;obtain rfl:=ep f0;obtain⟨u,aw,E,z⟩:=r.app c I _ f m gi _ _ _ _ d9 em K f2 v;obtain⟨hs,ad,am,W,_,ge⟩:=r.keep c I _ f;rw[aw] at ad;obtain rfl:=ee ad;have X:∀l∈d3,au new l=none:=λl s=>by
      cases C:au new l with
      |none=>rfl
      |some d4=>
       obtain⟨_,ce,ap⟩:=d2 l s;rcases(r.tree l d4 C).1 with m|m
       ·exact absurd m (an l s)
       rw[ap] at m;cases m
     have d1:dz new rtn o c.1=o c.1:=(by simp only[dz,aw,W]);have el:=ge m _ _ _ (Bb d9) K;rw[<-am,<-d1] at el;refine .app (t:=u) (by rw[iB,aw];rfl) em el E (v.mono a3 (λa b=>(z a b).2)) (λa b=>by simp only[dz,aw];exact(z a b).1) (q.mono a3 (λa b=>?_)) (λl s=>?_) (λa b=>?_) f4
     ·rcases eq a b with b|⟨l,s,b⟩
      ·exact(z a b).2
      obtain⟨_,ce,ap⟩:=d2 l s;exact cv l ce ap (an l s) a b
     ·obtain⟨ft,ce,ap⟩:=d2 l s;exact⟨ft,ce,by rw[iB,X l s,jT,ag (an l s)];simpa using ap⟩
     rcases eq a b with b|⟨l,s,b⟩
     ·exact .inl b
     exact .inr ⟨l,s,by simp only[dz,X l s];exact b⟩
    |_=>exact ci _ O D (.inr Q)
 intro a b d8;rw[r.heap a (gM b j.size)]
 ·exact j.frame a b d8
 intro id _ d f G;have:=((j.tree id d f).2.2 a G).2.2.2;rcases this with m|m
 ·omega
 exact d8 m
section
def iG (k:c5->Nat->Prop) (i:World) (a:ai) (l:Option Addr) (d:List a.den) (g:acW):Prop:=
 g.length=d.length/\(d=[]\/∃e h,l=some ⟨e,h,none⟩/\∀(c:Nat) (j:a.den) (f:ac7),d[c]?=some j->g[c]?=some f->∃b,b.length=a.size/\dL i e (h+c*a.size) b/\aP k i a b j f)
def iG.a5 {a:List d.den} (b:aP f e (.a5 P d) [.slice r c h] a []):c=a.length/\iG f e d r a (List.replicate a.length []):=by obtain⟨_,q,s,g,_,_,b⟩:=b;simp only[fJ,Value.slice.injEq,and_true] at g;obtain⟨rfl,rfl,rfl⟩:=g;refine⟨rfl,ab,b.imp id ?_⟩;rintro⟨l,o,m,_,n⟩;refine⟨l,o,m,λk p t j i=>?_⟩;have:k<a.length:=(ec.1 j).1;rw[lr,aj this] at i;obtain rfl:=ee i;exact n k p j
def iG.osl {k:List d.den} (g:aP f e (.osl d) [.slice r h c] k m):h=k.length/\h<=c/\∃i,iG f e d r k i/\(∀j∈i.flatten,j∈m)/\(m.Nodup->i.flatten.Nodup)/\((r=none/\c=0/\m=[])\/∃a b,r=some ⟨a,b,none⟩/\m=a::i.flatten/\hB e a b (b+c*d.size)):=by
 obtain⟨t,j,l,g⟩:=g;simp only[fJ,Value.slice.injEq,and_true] at l;obtain⟨rfl,rfl,rfl⟩:=l;rcases g with⟨rfl,rfl,rfl,rfl⟩|⟨a,b,n,rfl,rfl,aw,p,q,s⟩
 ·exact⟨rfl,a6 _,[],⟨rfl,.inl rfl⟩,ab,ab,.inl ⟨rfl,rfl,rfl⟩⟩
 refine⟨rfl,p,n,⟨aw,.inr ⟨a,b,rfl,s⟩⟩,λj o=>e1 _ o,λg=>(jd.1 g).2,.inr ⟨a,b,rfl,rfl,q⟩⟩
def iG.cells {b:List d.den} (h:iG f e d r b V) (z:0<d.size):∃p:ac1,p.length=b.length*d.size/\(∀c∈p,c.oneCell'=true)/\(∀g,r=some g->b≠[]->∀(m:Nat) c,p[m]?=some c->e.cell? (g.add m)=some c)/\∀(j:Nat) (q:d.den) (o:ac7),b[j]?=some q->V[j]?=some o->aP f e d ((p.drop (j*d.size)).take d.size) q o:=by
 obtain⟨G,h⟩:=h;rcases h with rfl|⟨g,n,rfl,h⟩
 ·exact⟨[],ab,ab,λ_ _ h=>absurd rfl h,ab⟩
 have w:∀a,a<b.length*d.size->∃c,e.cell? ⟨g,n+a,none⟩=some c/\c.oneCell'=true:=by
  intro a i;have y:a/d.size<b.length:=(Nat.div_lt_iff_lt_mul z).2 i;obtain⟨k,B,s,t⟩:=h (a/d.size) b[a/d.size] (V[a/d.size]'(by omega)) ab ab
  have H:=Nat.mod_lt a z;have:k[a %d.size]?=some (k[a %d.size]'(by omega)):=a9 _
  refine⟨_,?_,t.one _ (bD (by omega:a %d.size<k.length))⟩;have:=s _ _ this;rwa[show n+a/d.size*d.size+a %d.size=n+a by have:=nU a d.size;rw[jF] at this;omega] at this
 have x:∀a,((List.range (b.length*d.size)).map λa=>(e.cell? ⟨g,n+a,none⟩).getD undef)[a]?=if a<b.length*d.size then e.cell? ⟨g,n+a,none⟩ else none:=by
  intro a;rw[eT];by_cases i:a<b.length*d.size
  ·rw[aj i,oR i];obtain⟨c,v,_⟩:=w a i;simp[v]
  rw[ag i,fc (by simp;omega)];rfl
 refine⟨(List.range (b.length*d.size)).map λa=>(e.cell? ⟨g,n+a,none⟩).getD undef,ab,?_,?_,?_⟩
 ·intro c v;obtain⟨a,i,rfl⟩:=bR.1 v;obtain⟨I,E,u⟩:=w a (gL.1 i);simpa[E] using u
 ·intro F C _ m c l;cases C;rw[x] at l;split at l
  ·rw[Addr.add_lit];exact l
  cases l
 intro j q o A D;obtain⟨k,B,s,t⟩:=h j q o A D;have y:j<b.length:=(ec.1 A).1;have:(((List.range (b.length*d.size)).map λa=>(e.cell? ⟨g,n+a,none⟩).getD undef).drop (j*d.size)).take d.size=k:=by
  apply gK;intro m;rcases bn m d.size with l|l
  ·rw[kT l,iJ,x];have u:(j+1)*d.size<=b.length*d.size:=gE _ y;rw[e2,gN] at u;rw[aj U];have:k[m]?=some (k[m]'(by omega)):=a9 _
   rw[this,<-nT];exact s _ _ this
  rw[fc (by simp;omega),fc U]
 rw[this];exact t
section
variable {P:Program}
def Pd {w:World} {ty:TypeId} {j:TypeInfo} (r:P.underlying G=some (.slice a)) (C:dC P d a) (i:P.info? a=some j) (a3:d.size<=1300) {ad yd:Option Addr} {n cap m c:Nat} {olds news:ac1} (F:olds.length=n*d.size) (an:∀b,ad=some b->∀(e:Nat) (f:Value),olds[e]?=some f->w.cell? (b.add e)=some f) (ap:∀b,ad=some b->b.spot=none) (L:n<=cap) (Q:ad=none->cap=0) (s:news.length=m*d.size) (B:∀f∈news,f.oneCell'=true) (E:∀b,yd=some b->0<m->∀(e:Nat) (f:Value),news[e]?=some f->w.cell? (b.add e)=some f) (R:yd=none->m=0) (N:∀b,ad=some b->hB w b.block b.off (b.off+cap*d.size)) (O:n+m<=e7):∃I q,(Builtin.append_ #[G,G] ty #[.slice ad n cap,.slice yd m c]).run P w=.ok I q/\((
   n+m<=cap/\I=.slice ad (n+m) cap/\((ad=none/\q=w)\/∃b,ad=some b/\q=w.setCells b.block (b.off+n*d.size) news))\/
   ∃(g:Nat) (z:acZ),cap<n+m/\n+m<=g/\I=.slice (some ⟨w.heap.size,0,none⟩) (n+m) g/\gq w q/\q.heap[w.heap.size]?=some (.cells z a (0,0))/\q.heap.size=w.heap.size+1/\g*d.size<=z.size/\∀(e:Nat) (f:Value),(olds++news)[e]?=some f->z[e]?=some f):=by
 obtain⟨a4,_,h,_⟩:=C.info;have J:=h.info;rw[i] at J;cases J;have a0:=C.pos;by_cases x:n+m<=cap
 ·by_cases o:m=0
  ·subst o;obtain rfl:news=[]:=lm (by simpa using s);have M:(Builtin.firstCells d.size 0 (.slice yd 0 c)).run P w=.ok #[] w:=by
    cases yd with
    |none=>rfl
    |some b=>simp[Builtin.firstCells,loadCells,loadCellsFrom]
   refine⟨.slice ad n cap,w,?_,.inl ⟨x,rfl,?_⟩⟩
   ·cases ad with
    |none=>simp[Builtin.append_,run_underlying r,sizeOf,typeInfo,i,Builtin.lenOf,h.size,L,M]
    |some b=>simp[Builtin.append_,run_underlying r,sizeOf,typeInfo,i,Builtin.lenOf,h.size,L,M,storeCells]
   cases ad with
   |none=>exact .inl ⟨rfl,rfl⟩
   |some b=>exact .inr ⟨b,rfl,rfl⟩
  cases ad with
  |none=>have:=Q rfl;omega
  |some b=>
   cases yd with
   |none=>exact absurd (R rfl) o
   |some k=>
    obtain⟨S,T,V⟩:=b;obtain rfl:V=none:=ap _ rfl;have Z:(n+m)*d.size<=cap*d.size:=gE _ x;rw[e2] at Z;have p:=run_append_room_cells (P:=P) w G ty a j r i S T n cap k m c news (by rw[h.size];exact s) (E k rfl U) B x (λe v=>(N _ rfl _ (by rw[h.size];simp only;omega) (by rw[h.size];simp only;omega)).1) (λe v=>(N _ rfl _ (by rw[h.size];simp only;omega) (by rw[h.size];simp only;omega)).2);rw[h.size] at p;exact⟨_,_,p,.inl ⟨x,rfl,.inr ⟨_,rfl,rfl⟩⟩⟩
 obtain⟨l,av,y⟩:=C.EL;have y:=y j i;have o:0<m:=U;cases yd with
 |none=>have:=R rfl;omega
 |some k=>
  have K:(n+m)*j.bytes<=140737488355328:=(by have B:(n+m)*j.bytes<=e7*31200:=iu O (by have:=h.bytes;omega);unfold e7 at B;omega);have D:((n+m:Nat):Int)<=9223372036854775807:=(by unfold e7 at O;omega);have A:∀(H:Nat),let g:=grownCap w (n+m) H a
   n+m<=g/\gq w (w.drew.alloc (.cells (olds.toArray++news.toArray++Builtin.zeroCells l.cells (g-(n+m))) a))/\
   (w.drew.alloc (.cells (olds.toArray++news.toArray++Builtin.zeroCells l.cells (g-(n+m))) a)).heap[w.heap.size]?=some (.cells (olds.toArray++news.toArray++Builtin.zeroCells l.cells (g-(n+m))) a (0,0))/\
   g*d.size<=(olds.toArray++news.toArray++Builtin.zeroCells l.cells (g-(n+m))).size/\
   ∀(e:Nat) (f:Value),(olds++news)[e]?=some f->(olds.toArray++news.toArray++Builtin.zeroCells l.cells (g-(n+m)))[e]?=some f:=by
   intro H g;have X:n+m<=g:=grownCap_ge w (n+m) H a;refine⟨X,(gq.refl w).drew.trans (gq.alloc _ _),heap_alloc_new w.drew _,?_,?_⟩
   ·simp only[Array.size_append,p6,size_zeroCells,av,F,s,<-e2];refine gE _ ?_;omega
   intro e f v;have Y:e<(olds++news).length:=(ec.1 v).1;rw[Array.getElem?_append,aj (by simpa using Y)];simpa using v
  cases ad with
  |some b=>
   have p:=run_append_grow (P:=P) w G ty a j l r i y b n cap olds (by rw[h.size];exact F) (an b rfl) k m c news (by rw[h.size];exact s) (E k rfl o) U D (growslice_fits U K);obtain⟨t,f2,u,f4,f5⟩:=A cap;exact⟨_,_,p,.inr ⟨_,_,U,t,rfl,f2,u,ab,f4,f5⟩⟩
  |none=>
   have W:=Q rfl;have am:n=0:=U;subst W;subst am;obtain rfl:olds=[]:=lm (by simpa using F);simp only[hE] at D K A;have p:=run_append_nil (P:=P) w G ty a j l r i y k m c news (by rw[h.size];exact s) (E k rfl o) o D U;obtain⟨t,f2,u,f4,f5⟩:=A 0;simp only[fi,Array.empty_append] at t f2 u f4 f5;refine⟨_,_,p,.inr ⟨_,_,U,by rw[hE];exact t,by rw[hE],f2,u,ab,f4,f5⟩⟩
end
end
def yn (b:Nat):∀(h:ac1) (e:Nat) (c:World) (a:Nat),a≠b->(c.setCells b e h).heap[a]?=c.heap[a]?
 |[],_,_,_,_=>rfl
 |v::g,e,c,a,d=>by rw[World.setCells,yn b g _ _ a d];simp only[World.setCell,pV];rw[ag (λf=>d f.symm)]
def vp (b:Nat):∀(e:ac1) (c:Nat) (a:World),(a.setCells b c e).heap.size=a.heap.size
 |[],_,_=>rfl
 |v::d,c,a=>by rw[World.setCells,vp b d];simp
def oB (b:Nat):∀(d:ac1) (c:Nat) (a:World),(a.setCells b c d).os=a.os/\(a.setCells b c d).tape=a.tape/\(a.setCells b c d).output=a.output
 |[],_,_=>⟨rfl,rfl,rfl⟩
 |v::e,c,a=>by rw[World.setCells];exact oB b e _ _
def Gp (c:Nat) (e:ac1) (a:Nat) (f:World) (g:∀b,b<e.length->(f.cell? ⟨c,a+b,none⟩).isSome=true) (d:Nat):((f.setCells c a e).cell? ⟨c,d,none⟩).isSome=(f.cell? ⟨c,d,none⟩).isSome:=by
 by_cases h:a<=d/\d<a+e.length
 ·obtain⟨b,rfl⟩:∃b,d=a+b:=⟨d-a,U⟩;rw[World.cell?_setCells_in c e a f g b U,g b U];rfl
 rw[World.cell?_setCells_out c e a f _ (λ_ _=>by simp only;omega)]
def SN (c:World) (a:Addr) (f:Value) (b:Nat):hk (c.setCell a f) b=hk c b:=by
 unfold hk World.setCell;simp only[pV];by_cases d:a.block=b
 ·subst d;simp only[if_true];cases c.heap[a.block]? with
  |none=>rfl
  |some e=>cases e<;>rfl
 simp only[ag d]
def xH (d:Nat):∀(f:ac1) (b:Nat) (c:World) (a:Nat),hk (c.setCells d b f) a=hk c a
 |[],_,_,_=>rfl
 |v::e,b,c,a=>by rw[World.setCells,xH d e (b+1),SN]
def pK {vs:ac1} {o:Nat} {w:World} (a:h≠c):bN w (w.setCells c o vs) h:=.of_heap (yn c vs o w h a)
def HL {P:Program} {ty:TypeId} {f8:TypeInfo} (eq:P.underlying G=some (.slice a)) (cs:dC P d a) (fT:P.info? a=some f8) (f6:d.size<=1300) {c:Nat} {s L:List d.den} {J:ac7} (am:aP f e (.osl d) [.slice r M h] s J) (bs:iG f e d T L V) (a3:J.Nodup) (el:∀i∈J,∀p,¬f p i) (f5:V.flatten.Nodup) (ds:∀i∈J,i∉V.flatten) (em:∀p i,f p i->i<e.heap.size) (a0:∀i∈J,i<e.heap.size) (ce:∀i∈V.flatten,i<e.heap.size) (f1:s.length+L.length<=e7):∃ci q f2,(Builtin.append_ #[G,G] ty #[.slice r M h,.slice T L.length c]).run P e=.ok ci q/\aP f q (.osl d) [ci] (s++L) f2/\aP f q (.osl d) [.slice r M h] s J/\f2.Nodup/\(∀i∈f2,i∈J\/i∈V.flatten\/(e.heap.size<=i/\i<q.heap.size))/\e.heap.size<=q.heap.size/\q.os=e.os/\q.tape=e.tape/\q.output=e.output/\(∀i,i<e.heap.size->i∉J->q.heap[i]?=e.heap[i]?)/\(∀p i,f p i->bN e q i)/\(∀i∈V.flatten,bN e q i)/\(∀i,i<e.heap.size->hk q i=hk e i):=by
 obtain⟨rfl,dl,E,d6,Y,fs,W⟩:=iG.osl am;have d3:=cs.pos;obtain⟨I,Q,hi,d7,gi⟩:=d6.cells d3;obtain⟨y,f9,gc,ge,gf⟩:=bs.cells d3;have Z:=d6.1;have d1:=bs.1;obtain⟨ci,q,bl,fn⟩:=Pd (P:=P) (w:=e) (ty:=ty) eq cs fT f6 (ad:=r) (yd:=T) (n:=s.length) (cap:=h) (m:=L.length) (c:=c) (olds:=I) (news:=y) Q (λi u k z l=>d7 i u (by rintro rfl;simp at Q;subst Q;simp at l) k z l) (λi u=>by rcases W with⟨t,_⟩|⟨o,v,t,_⟩<;>rw[u] at t<;>cases t;rfl) dl (λt=>by rcases W with⟨_,g,_⟩|⟨o,v,g,_⟩;exact g;rw[t] at g;cases g) f9 gc (λi u f3 k z l=>ge i u (by rintro rfl;simp at f3) k z l) (λt=>by rcases bs.2 with rfl|⟨i,hc,g,_⟩;rfl;rw[t] at g;cases g) (λi u=>by
   rcases W with⟨t,_⟩|⟨o,v,t,_,X⟩
   ·rw[u] at t;cases t
   rw[u] at t;cases t;exact X) f1
 have R:(E++V).flatten=E.flatten++V.flatten:=ab;have d2:(E++V).flatten.Nodup:=(by rw[R,hC];exact⟨fs a3,f5,λco ex i u D=>ds co (Y co ex) (D▸u)⟩);have av:∀(b:Nat) (F:d.den) (x:ac7),(s++L)[b]?=some F->(E++V)[b]?=some x->aP f e d (((I++y).drop (b*d.size)).take d.size) F x/\∀i∈x,i∈E.flatten\/i∈V.flatten:=by
  intro b F x j B;rcases bn b s.length with g|g
  ·rw[lq g] at j;rw[lq U] at B;have A:(b+1)*d.size<=s.length*d.size:=gE _ g;rw[e2,gN] at A;rw[oN U,rB (by simp;omega)];exact⟨gi b F x j B,λi u=>.inl (it.2 ⟨x,kt B,u⟩)⟩
  rw[l5 g] at j;rw[l5 U,Z] at B;have A:s.length*d.size<=b*d.size:=gE _ g;rw[List.drop_append,oO U,fi,Q,show b*d.size-s.length*d.size=(b-s.length)*d.size by rw[Nat.sub_mul]];exact⟨gf _ F x j B,λi u=>.inr (it.2 ⟨x,kt B,u⟩)⟩
 rcases fn with⟨d4,rfl,f7⟩|⟨d8,d9,gs,ft,rfl,H,fz,gt,go,fp⟩
 ·rcases f7 with⟨rfl,rfl⟩|⟨i,rfl,rfl⟩
  ·have gl:h=0:=by rcases W with⟨_,g,_⟩|⟨o,v,g,_⟩;exact g;cases g
   obtain rfl:s=[]:=lm U;obtain rfl:L=[]:=lm U;exact⟨_,q,J,bl,by simpa using am,am,a3,λi u=>.inl u,a6 _,rfl,rfl,rfl,λ_ _ _=>rfl,λ_ _ _=>bN.refl _ _,λ_ _=>bN.refl _ _,λ_ _=>rfl⟩
  rcases W with⟨t,_⟩|⟨o,v,t,rfl,X⟩
  ·cases t
  cases t;have an:o∉E.flatten:=(jd.1 a3).1;have ap:o∉V.flatten:=ds o ab;have f4:(s.length+L.length)*d.size<=h*d.size:=gE _ d4;rw[e2] at f4;have d5:∀k,k<y.length->(e.cell? ⟨o,v+s.length*d.size+k,none⟩).isSome=true:=λk l=>(X _ U U).1;have O:∀p b,f p b->f p b/\bN e (e.setCells o (v+s.length*d.size) y) b:=λp b j=>⟨j,pK (λD=>el o ab p (D▸j))⟩;have d0:hB (e.setCells o (v+s.length*d.size) y) o v (v+h*d.size):=λk A N=>(by rw[Gp o y _ e d5,World.frozen?_setCells];exact X k A N);have cv:∀k z,(I++y)[k]?=some z->(e.setCells o (v+s.length*d.size) y).cell? ⟨o,v+k,none⟩=some z:=by
   intro k z l;rcases bn k I.length with g|g
   ·rw[lq g] at l;rw[World.cell?_setCells_out o y _ e _ (λ_ _=>by simp only;omega)];have:=d7 ⟨o,v,none⟩ rfl (by rintro rfl;simp at Q;subst Q;simp at g) k z l;rwa[Addr.add_lit] at this
   rw[l5 g] at l;obtain⟨C,rfl⟩:∃C,k=I.length+C:=⟨k-I.length,U⟩;rw[lv] at l;have K:C<y.length:=(ec.1 l).1;rw[Q,<-nT,World.cell?_setCells_in o y _ e d5 C K];rw[a9 K] at l;exact l
  refine⟨_,_,o::(E++V).flatten,bl,?_,?_,?_,?_,by rw[vp];exact a6 _,(oB _ _ _ _).1,(oB _ _ _ _).2.1,(oB _ _ _ _).2.2,?_,λp b j=>(O p b j).2,λb j=>pK (λD=>ap (by have ek:b=o:=D;rw[<-ek];exact j)),λb _=>xH _ _ _ _ _⟩
  ·refine⟨some ⟨o,v,none⟩,h,ab,.inr ⟨o,v,E++V,rfl,rfl,by simp[Z,d1],by simpa using d4,d0,λb F x j B=>?_⟩⟩;obtain⟨A,N⟩:=av b F x j B;refine⟨_,A.len,λk z l=>?_,A.mono O (λC K=>pK (λD=>?_))⟩
   ·have S:(I++y)[b*d.size+k]?=some z:=by
     rw[rx] at l;split at l
     ·rwa[iJ] at l
     cases l
    rw[nT];exact cv _ _ S
   subst D;rcases N C K with g|g
   ·exact an g
   exact ap g
  ·refine⟨some ⟨o,v,none⟩,h,rfl,.inr ⟨o,v,E,rfl,rfl,Z,dl,d0,λb F x j B=>?_⟩⟩;have f0:b<s.length:=(ec.1 j).1;obtain⟨A,N⟩:=av b F x (by rw[lq f0];exact j) (by rw[lq U];exact B);refine⟨_,A.len,λk z l=>?_,A.mono O (λC K=>pK (λD=>?_))⟩
   ·have S:(I++y)[b*d.size+k]?=some z:=by
     rw[rx] at l;split at l
     ·rwa[iJ] at l
     cases l
    rw[nT];exact cv _ _ S
   subst D;exact an (it.2 ⟨x,kt B,K⟩)
  ·rw[jd,R];exact⟨by simp[an,ap],R▸d2⟩
  ·intro b j;rcases dg.1 j with rfl|j
   ·exact .inl ab
   rw[R] at j;rcases dX.1 j with g|g
   ·exact .inl (e1 _ g)
   exact .inr (.inl g)
  intro b _ j;exact yn o _ _ _ b (λD=>j (D▸by simp))
 have O:∀p b,f p b->f p b/\bN e q b:=λp b j=>⟨j,.of_heap (H.heap b (em p b j))⟩;have a4:∀k,q.cell? ⟨e.heap.size,k,none⟩=d9[k]?/\q.frozen? ⟨e.heap.size,k,none⟩=false:=λk=>(by simp[World.cell?,World.frozen?,fz]);refine⟨_,q,e.heap.size::(E++V).flatten,bl,?_,am.mono O (λb j=>.of_heap (H.heap b (a0 b j))),?_,?_,H.size,H.os,H.tape,H.output,λb j _=>H.heap b j,λp b j=>(O p b j).2,λb j=>.of_heap (H.heap b (ce b j)),λb j=>(bN.of_heap (H.heap b j)).2⟩
 ·refine⟨some ⟨e.heap.size,0,none⟩,d8,ab,.inr ⟨e.heap.size,0,E++V,rfl,rfl,by simp[Z,d1],by simpa using ft,λk _ N=>?_,λb F x j B=>?_⟩⟩
  ·rw[(a4 k).1,(a4 k).2];exact⟨by simp;omega,rfl⟩
  obtain⟨A,N⟩:=av b F x j B;refine⟨_,A.len,λk z l=>?_,A.mono O (λC K=>.of_heap (H.heap C ?_))⟩
  ·rw[(a4 _).1];have S:(I++y)[b*d.size+k]?=some z:=by
    rw[rx] at l;split at l
    ·rwa[iJ] at l
    cases l
   rw[hE];exact fp _ _ S
  rcases N C K with g|g
  ·exact a0 C (Y C g)
  exact ce C g
 ·rw[jd];refine⟨λg=>?_,d2⟩;rw[R] at g;rcases dX.1 g with g|g
  ·have:=a0 _ (Y _ g);omega
  have:=ce _ g;omega
 intro b j;rcases dg.1 j with rfl|j
 ·exact .inr (.inr ⟨a6 _,U⟩)
 rw[R] at j;rcases dX.1 j with g|g
 ·exact .inl (Y b g)
 exact .inr (.inl g)
section
def dA.get:∀{p:List aW} {b:ai} {c j:b.den} {e:ai} {k:e.den},dA b c p e k j->∃d,c4 b c p e d
 |[],b,c,_,_,_,a=>by obtain⟨rfl,_⟩:=dA.eQ.1 a;exact⟨c,c4.eQ.2 ⟨rfl,rfl⟩⟩
 |s::p,b,_,_,_,_,a=>by
  cases b<;>cases s<;>simp only[dA] at a
  case osl.idx=>obtain⟨g,f,i,a,_⟩:=a;obtain⟨d,h⟩:=dA.get (p:=p) a;exact⟨d,g,i,h⟩
  case optr.deref=>exact dA.get (p:=p) a
  case st.unst=>exact dA.get (p:=p) a
  case pr.fst=>obtain⟨f,a,_⟩:=a;exact dA.get (p:=p) a
  case pr.snd=>obtain⟨f,a,_⟩:=a;exact dA.get (p:=p) a
def dA.same:∀{p:List aW} {c:ai} {b:c.den} {d:ai} {g:d.den},c4 c b p d g->dA c b p d g b
 |[],c,b,_,_,a=>by obtain⟨rfl,rfl⟩:=c4.eQ.1 a;exact dA.eQ.2 ⟨rfl,rfl⟩
 |s::p,c,b,_,_,a=>by
  cases c<;>cases s<;>simp only[c4] at a
  case osl.idx i=>
   obtain⟨e,f,a⟩:=a;refine⟨e,e,f,dA.same (p:=p) a,?_⟩;obtain⟨h,rfl⟩:=ec.1 f;exact(List.set_getElem_self h).symm
  case optr.deref=>exact dA.same (p:=p) a
  case st.unst=>exact dA.same (p:=p) a
  case pr.fst=>exact⟨b.1,dA.same (p:=p) a,rfl⟩
  case pr.snd=>exact⟨b.2,dA.same (p:=p) a,rfl⟩
def BT {a:z} {b:Nat->z}:dz [(c,F)] (λ_=>a) b c=a:=by simp[dz,bU]
section
variable {E:dR} {C:dn} {st:aO} {a:Act} {A:acZ} {w:World} {I:Nat->Prop} {rt:Nat->ac1} {fp:Nat->ac7} {o:Oper}
def XQ (j:g.length=M) (f:hB w h c (c+M)) (d:Nat):pX w (w.setCells h c g) (some (h,c)) M d:=by
 have i:∀a,a<g.length->(w.cell? ⟨h,c+a,none⟩).isSome=true:=λa e=>(f _ U U).1;refine⟨λa e=>World.cell?_setCells_out h g c w _ (λb _=>?_),λa=>World.frozen?_setCells _ _ _ _ _,λa=>?_,xH _ _ _ _ _⟩
 ·have b:d=h:=b;have:=e c (by rw[b]);simp only;omega
 by_cases b:d=h
 ·subst b;exact Gp d g c w i a
 rw[((pK (w:=w) (o:=c) (vs:=g) b).1 a).1]
def br.Yl (t:br C st A w I rt fp) {id:Nat} (q:au st.h id=some F) {P:ac1} (ad:aS w F.1 none (rt id) l d (some (c,M)) P) {z:d.den} {u:F.1.den} (J:dA F.1 F.2 l d z u) {n:ac1} {r:ac7} (K:aP (ba I C.B) w d n z r) (d9:r.Nodup) (cv:id∉m) (d4:∀a∈r,(∃E,∃a0:d.den,d.il=true/\aP (ba I C.B) w d P a0 E/\a∈E)\/∃e∈m,∃i,au st.h e=some i/\a∈fp e):hB w c M (M+d.size)/\∃rtn fpn,br C ⟨kill (id::m) [(id,l)] st.g,(id,⟨F.1,u⟩)::del (id::m) st.h⟩ A (w.setCells c M n) I rtn fpn/\rtn id=rt id/\aS (w.setCells c M n) F.1 none (rt id) l d (some (c,M)) n:=by
 obtain⟨el,an,d1⟩:=t.tree id F q;obtain⟨a0,d5⟩:=J.get;obtain⟨gf,f8,a3,av,a4,bl,bs,v,ce,ci,co⟩:=xj l (loc:=none) el (λ_ _ b=>by cases b) an (λ_ _ b=>by cases b) (t.notM q) d5;obtain⟨_,al,D⟩:=ad.ij a4;subst al;subst D;obtain⟨_,G⟩:=bs c M rfl;have T:c∈av:=by
  rcases ce c M rfl with⟨ap,b,_⟩|b
  ·cases b
  exact b
 have R:c∈fp id:=v.mem_iff.2 (by simp[T]);have am:=v.nodup_iff.1 an;rw[hC] at am;obtain⟨gc,H,d7⟩:=am;have V:∀a∈r,a∈a3\/∃e∈m,∃i,au st.h e=some i/\a∈fp e:=λa f=>by
  rcases d4 a f with⟨E,go,d0,em,b⟩|b
  ·rw[<-aP.uniq d0 bl em] at b;exact .inl b
  exact .inr b
 have ek:∀e∈m,∀i,au st.h e=some i->∀a∈fp e,a∉fp id:=λe k i j a f y=>t.dis e id i F j q (λo=>cv (o▸k)) a f y;have X:∀a∈r,a∉av:=λa f y=>by
  rcases V a f with b|⟨e,k,i,j,b⟩
  ·exact d7 a b a y rfl
  exact ek e k i j a b (v.mem_iff.2 (by simp[y]))
 have cs:∀x a,ba I C.B x a->a≠c:=λx a f o=>t.notM q c R x (o▸f);have d2:=XQ (w:=w) K.len G;have fs:aP (ba I C.B) (w.setCells c M n) d n z r:=K.mono (λx a f=>⟨f,pK (cs x a f)⟩) (λa f=>pK (λo=>X a f (by rw[o];exact T)));have ex:∀s,s<n.length->(w.cell? ⟨c,M+s,none⟩).isSome=true:=λs p=>(G _ U (by have:=K.len;omega)).1;have ds:dL (w.setCells c M n) c M n:=λs f4 p=>(by have Z:s<n.length:=(ec.1 p).1;rw[World.cell?_setCells_in c n M w ex s Z];rw[a9 Z] at p;exact p);obtain⟨f9,Q,fz,_,f0,_,L,f1,fT⟩:=ci (w.setCells c M n) (ba I C.B) n z r u (λ_ _ b=>b) (λa _=>d2 a) fs (λb=>by cases b) (λf6 gi o=>by simp only[bF,fe] at o;obtain⟨rfl,rfl⟩:=o;exact ds) J;obtain rfl:=f0 rfl (.inl ab);have d3:∀a∈Q,a∈fp id\/∃e∈m,∃i,au st.h e=some i/\a∈fp e:=λa f=>by
  rcases dX.1 (L.mem_iff.1 f) with b|b
  ·rcases V a b with b|b
   ·exact .inl (v.mem_iff.2 (by simp[b]))
   exact .inr b
  exact .inl (v.mem_iff.2 (by simp[b]))
 have dl:=t.eI (S:=id::m) (keep:=[(id,l)]) (new:=[(id,⟨F.1,u⟩)]) (rtn:=λ_=>rt id) (fpn:=λ_=>Q) (w':=w.setCells c M n) (I':=I) ⟨?_,(oB _ _ _ _).1,(oB _ _ _ _).2.1,(oB _ _ _ _).2.2,?_,λa _=>.of_eq (xH _ _ _ _ _),λ_ b=>b,λ_ b=>.inl b,?_,?_,?_,?_⟩
 ·exact⟨G,_,_,dl,by rw[BT],f1⟩
 ·rw[vp];exact a6 _
 ·intro a _ f;exact yn c _ _ _ a (λo=>f id ab F q (o▸R))
 ·intro e i j;rw[bU] at j;split at j
  ·rename_i o;subst o;cases j;refine⟨.inl ab,fz,?_,λa f=>?_⟩
   ·rw[L.nodup_iff,hC];exact⟨d9,H,λf5 fn gs ft o=>X f5 fn (o▸ft)⟩
   rcases d3 a f with b|⟨e,k,i,j,b⟩
   ·obtain⟨aw,N,O,f3⟩:=d1 a b;exact⟨aw,by rw[vp];exact O,.inr ⟨id,ab,F,q,b⟩⟩
   obtain⟨aw,N,O,f3⟩:=(t.tree e i j).2.2 a b;exact⟨aw,by rw[vp];exact O,.inr ⟨e,by simp[k],i,j,b⟩⟩
  cases j
 ·intro e s i f4 k p d6;rw[bU] at k p;split at k
  ·split at p
   ·rename_i al D;exact absurd (al.symm.trans D) d6
   cases p
  cases k
 ·intro e k i j;simp only[ed] at k;subst k;rw[q] at j;obtain rfl:=ee j;refine⟨⟨F.1,u⟩,?_,rfl,rfl,⟨_,ad.ty⟩,fT⟩;rw[bU,aj rfl]
 intro e k i j ap gt gl ge f7 f2 W d8 H Y eq;simp only[ed] at k;subst k;rw[q] at j;obtain rfl:=ee j;refine⟨⟨F.1,u⟩,by rw[bU,aj rfl],sf W J Y,λa f=>?_⟩;obtain⟨aw,N⟩:=co ap _ _ _ _ _ W (by exact d8) Y H eq a f;exact⟨L.mem_iff.2 (kU _ aw),pK (N _ _ rfl)⟩
def br.store (r:br C st A w I rt fp) {id:Nat} (y:au st.h id=some F) {i:ac1} (u:aS w F.1 none (rt id) l d (some (M,c)) i) {o:d.den} {n:F.1.den} (x:dA F.1 F.2 l d o n) {f:ac1} {S2:ac7} (z:aP (ba I C.B) w d f o m) (v:m.Nodup) (s:id∉S2) (t:∀e∈m,(∃j,∃E:d.den,d.il=true/\aP (ba I C.B) w d i E j/\e∈j)\/∃k∈S2,∃D,au st.h k=some D/\e∈fp k):hB w M c (c+d.size)/\∃b a,br C ⟨kill (id::S2) [(id,l)] st.g,(id,⟨F.1,n⟩)::del (id::S2) st.h⟩ A (w.setCells M c f) I b a:=by obtain⟨p,b,a,q,_⟩:=r.Yl y u x z v s t;exact⟨p,b,a,q⟩
inductive tG where
 |du (s:aO)
 |part (α:Type) (φ:α->Prop) (f:α->aO)
 |bad
def tG.K (c:tG) (Q:aO->Prop):Prop:=
 match c with
 |.du d=>Q d
 |.part e f b=>∃a:e,f a/\Q (b a)
 |.bad=>False
def dk (E:dR) (C:dn) (o:Oper) (st:aO) (Q:aO->Prop):Prop:=
 ∀(a:Act) (w:World),e3 C st a.tmps w->∀(next:Act->World->Prop) (e:Exit->Act->World->Prop),(∀c b d,Q c->b.defers=a.defers->e3 C c b.tmps d->next b d)->o.wp E.P a w next e
variable {Q:aO->Prop}
def dk.eval {an:List (Nat×ai)} (j:o.dst=some c) (l:C.ok c) (i:(e6 E.tt an st.h (aR st.g) c o.op).K (λb e=>Q ⟨(c,b)::st.g,e++st.h⟩)):dk E C o st Q:=by
 rintro a w ⟨I,rt,fp,d⟩ next r m
 exact(QQ d i).wp d j l (λb e f q n k p=>m _ f q n k p)
def pF (b:List (Nat×aH)) (c:ao):Option (Nat×List aW):=
 match c with
 |.addr id a=>some (id,a)
 |.ref id a=>match au b id with
  |some ⟨d,_⟩=>match dF d a with
   |some (.optr _)=>some (id,a++[.deref])
   |_=>none
  |none=>none
 |_=>none
def CE (
 tt:List (TypeId×ai)) (st:aO) (m:TypeId) (o v:ao):tG:=
 match pF st.h o with
 |none=>.bad
 |some (
  id,p)=>match au st.h id,au tt m with
  |some ⟨b,e⟩,some n=>match dF b p with
   |none=>.bad
   |some c=>bif a1 n c then match v with
    |.ref d i=>match au st.h d with
     |some ⟨r,j⟩=>bif Nat.beq id d then .bad else
      .part (c.den×b.den) (λa=>c4 r j i c a.1/\dA b e p c a.1 a.2) (λa=>⟨kill [id,d] [(id,p)] st.g,(id,⟨b,a.2⟩)::del [id,d] st.h⟩)
     |none=>.bad
    |.app d i f q l=>if _e:c=.osl f then
     .part (List f.den×b.den) (λa=>d=id/\i=p/\c4 b e p (.osl f) a.1/\dA b e p (.osl f) (a.1++q) a.2) (λa=>⟨kill (id::l) [(id,p)] st.g,(id,⟨b,a.2⟩)::del (id::l) st.h⟩) else .bad
    |v=>match coe c v with
     |some j=>.part b.den (λk=>dA b e p c j k) (λk=>⟨kill [id] [(id,p)] st.g,(id,⟨b,k⟩)::del [id] st.h⟩)
     |none=>.bad
   else .bad
  |_,_=>.bad
def Wr (n:br C st a.tmps w I rt fp) {id:Nat} (c:pF st.h (aR st.g b)=some (id,l)) (k:au st.h id=some F) (q:dF F.1 l=some d):∃j r s,a.eval b=.pointer (some ⟨j,r,none⟩)/\aS w F.1 none (rt id) l d (some (j,r)) s:=by
 have i:=n.aR b;unfold pF at c;generalize B:a.eval b=E at i;split at c
 ·rename_i y A m;cases c;rw[m] at i;cases i with|addr f e=>
  rw[k] at f;cases f;have:=e.ty;rw[q] at this;cases this;exact⟨_,_,_,rfl,e⟩
 ·rename_i y A m;split at c
  case h_2=>cases c
  rename_i H G p;split at c
  case h_2=>cases c
  rename_i D x;cases c;rw[k] at p;cases p;rw[m] at i;cases i with|ref f e=>
  rw[k] at f;cases f;have:=e.ty;rw[x] at this;cases this;obtain⟨j,z,v,rfl,t,u⟩:=np (n.tree id _ k).1 e;have o:=e.append (aS.D9 t u);have:=o.ty;rw[q] at this;cases this;exact⟨j,z,v,rfl,o⟩
 cases c
def Yk (l:au E.tt G=some d) (p:a1 d q=true) (r:o.op=.store G i b) (u:a.eval i=.pointer (some ⟨h,c,none⟩)) (t:(a.eval b).cells=g.toArray) (m:g.length=q.size) (k:∀b∈g,b.oneCell'=true) (f:hB w h c (c+q.size)):(execOp a.eval o).run E.P w=.ok .skip (w.setCells h c g):=by have s:=(E.ok G d l).lay p;have j:=run_storeCells_cells (P:=E.P) h c g 0 w (λe n=>by simpa using(f (c+e) U U).1) (λe n=>by simpa using(f (c+e) U U).2) k;simp only[kv] at j;have:(storeVar G ⟨h,c,none⟩ (a.eval b)).run E.P w=.ok () (w.setCells h c g):=(by simp only[storeVar,t,Sem.run_bind,s.sizeOf,Result.andThen_ok];simpa[m] using j);simp[execOp,r,u,Instr.storeAt,Instr.sureAddr,this]
def Yj (d3:o.op=.store G i b) (bs:o.dst=none) (c:(CE E.tt st G (aR st.g i) (aR st.g b)).K Q):dk E C o st Q:=by
 rintro a w ⟨I,rt,fp,f⟩ next a0 d2
 have h:=f.aR b;unfold CE at c;split at c
 ·exact c.elim
 rename_i id f3 d4;split at c
 case h_2=>exact c.elim
 rename_i f9 f8 ap q W;split at c
 ·exact c.elim
 rename_i u d8;cases x:a1 ap u with
 |false=>rw[x] at c;exact c.elim
 |true=>
 rw[x] at c;simp only[cond_true] at c;obtain⟨U,O,fz,ek,z⟩:=Wr f d4 q d8;have J:=(E.ok G ap W).lay x;have H:∀(k:ac1) (S:aO) (e:Nat->ac1) (d:Nat->ac7),(a.eval b).cells=k.toArray->k.length=u.size->(∀b∈k,b.oneCell'=true)->hB w U O (O+u.size)->br C S a.tmps (w.setCells U O k) I e d->Q S->o.wp E.P a w next a0:=by
  intro k S e d al D a3 a4 d6 d5;unfold Oper.wp;rw[Yk W x d3 ek al D a3 a4];show next (a.put o.dst undef) _
  rw[bs];exact d2 _ _ _ d5 rfl ⟨I,e,d,d6⟩
 split at c
 ·rename_i j am F;split at c
  case h_2=>exact c.elim
  rename_i gc f6 A;cases v:Nat.beq id j with
  |true=>rw[v] at c;exact c.elim
  |false=>
   rw[v] at c;obtain⟨⟨T,av⟩,⟨co,p⟩,c⟩:=c;have d1:id≠j:=λB=>(by rw[B,p7] at v;cases v);rw[F] at h;generalize N:a.eval b=fn at h;cases h with|ref r M=>
   rw[A] at r;cases r;obtain⟨t,an,f4⟩:=f.tree j _ A;obtain⟨f1,fT,f2,f5,em,s,_,ad,_⟩:=Bs am (τ':=u) (y:=T) t (loc:=none) (λ_ _ c=>by cases c) an (λ_ _ c=>by cases c) (f.notM A) co;obtain⟨rfl,rfl,rfl⟩:=M.ij em;have d0:f2.Nodup:=(hC.1 (ad.nodup_iff.1 an)).1;obtain⟨n,e,d,m⟩:=f.store q z p s d0 (S2:=[j]) (by simpa using d1) (λV L=>.inr ⟨j,ab,_,A,ad.mem_iff.2 (by simp[L])⟩);exact H _ _ e d (by rw[N];exact nv J s.len s.one) s.len s.one n m c
 ·rename_i j am ft f7 eq F;split at c
  case isFalse=>exact c.elim
  rename_i B;subst B;obtain⟨⟨fs,av⟩,⟨rfl,rfl,ce,p⟩,c⟩:=c;rw[F] at h;generalize N:a.eval b=fn at h;cases h with|app r cv M ci bl f0 l Y d7 ds=>
  rw[q] at r;cases r;obtain rfl:=c4.uniq ce ci;obtain⟨_,al,D⟩:=z.ij M;subst al;subst D;have dl:(ai.osl ft).il=true:=cv;obtain⟨n,e,d,m⟩:=f.store q z p l ds (S2:=eq) (λcs=>(Y _ cs).1 rfl) (λV L=>by
   rcases d7 V L with R|⟨Z,X,R⟩
   ·exact .inl ⟨_,fs,dl,bl,R⟩
   obtain⟨_,ex,d9⟩:=Y Z X;exact .inr ⟨Z,X,ex,d9,R⟩)
  exact H _ _ e d (by rw[N];have:=nv J l.len l.one;exact this) l.len l.one n m c
 split at c
 case h_2=>exact c.elim
 rename_i T el;obtain⟨av,p,c⟩:=c;have t:=DG J h el;obtain⟨n,e,d,m⟩:=f.store q z p t ab (S2:=[]) ab ab;exact H _ _ e d ab t.len t.one n m c
end
end
section
def Bq (a:List (List z)) (c b:Nat):((a.take b).drop c).flatten.Sublist a.flatten:=by have d:a.flatten=((a.take b).take c).flatten++((a.take b).drop c).flatten++(a.drop b).flatten:=(by rw[<-oP,ku,<-oP,ku]);rw[d];exact(List.sublist_append_right _ _).trans (List.sublist_append_left _ _)
section
variable {E:dR} {C:dn} {st:aO} {a:Act} {A:acZ} {w:World} {I:Nat->Prop} {rt:Nat->ac1} {fp:Nat->ac7} {o:Oper} {Q:aO->Prop}
def zf (c:List (Nat×ai)) (st:aO) (a:Nat) (i:ao):tG:=
 match i with
 |.ref id []=>match au st.h id with
  |some b=>.du ⟨(a,.ref a [])::kill [id,a] [] st.g,(a,b)::del [id,a] st.h⟩
  |none=>.bad
 |.ref id f=>bif Nat.beq id a then .bad else .du ⟨(a,.ref id f)::kill [a] [] st.g,del [a] st.h⟩
 |.view id [] e d=>match au st.h id with
  |some ⟨.osl b,j⟩=>.du ⟨(a,.ref a [])::kill [id,a] [] st.g,(a,⟨.osl b,(j.take d).drop e⟩)::del [id,a] st.h⟩
  |_=>.bad
 |.bQ (.slice none 0 0)=>match au c a with
  |some (.osl b)=>.du ⟨(a,.ref a [])::kill [a] [] st.g,(a,⟨.osl b,[]⟩)::del [a] st.h⟩
  |_=>.bad
 |_=>.bad
def lA.one {w':World} {I':Nat->Prop} {S:ac7} {d:Nat} {t:aH} {cs:ac1} {f:ac7} (u:d∈S\/au st.h d=none) (m:w.heap.size<=w'.heap.size) (n:w'.os=w.os) (o:w'.tape=w.tape) (p:w'.output=w.output) (q:∀a,a<w.heap.size->(∀id∈S,∀t,au st.h id=some t->a∉fp id)->w'.heap[a]?=w.heap[a]?) (v:∀a,a<w.heap.size->hk w' a=hk w a) (r:∀a,I a->I' a) (s:∀a,I' a->I a\/(a<w'.heap.size/\(w.heap.size<=a\/∃id∈S,∃t,au st.h id=some t/\a∈fp id))) (z:aP (ba I' C.B) w' t.1 cs t.2 f) (x:f.Nodup) (c:∀a∈f,¬I' a/\a<w'.heap.size/\(w.heap.size<=a\/∃j∈S,∃D,au st.h j=some D/\a∈fp j)):lA C st w w' I I' rt fp S [] [(d,t)] (λ_=>cs) (λ_=>f):=by
 refine⟨m,n,o,p,q,λa c=>.of_eq (v a c),r,s,?_,?_,(λid g=>by cases g),(λid g=>by cases g)⟩
 ·intro A E b;rw[bU] at b;split at b
  ·rename_i k;subst k;obtain rfl:=ee b;exact⟨u,z,x,c⟩
  cases b
 intro A F E G e i y;rw[bU] at e i;split at e
 ·split at i
  ·rename_i al l;exact absurd (al.symm.trans l) y
  cases i
 cases e
def dk.Pj (eq:o.op=.assign b) (d9:o.dst=some c) (bs:C.ok c) (e:(zf j st c (aR st.g b)).K Q):dk E C o st Q:=by
 rintro a w ⟨I,rt,fp,z⟩ next a0 em
 have p:=z.aR b;have ci:(execOp a.eval o).run E.P w=.ok (.value (a.eval b)) w:=(by simp[execOp,eq]);have O:∀(ap:aO) (rtn:Nat->ac1) (fpn:Nat->ac7),br C ap (a.tmps.setIfInBounds c (a.eval b)) w I rtn fpn->Q ap->o.wp E.P a w next a0:=by
  intro ap rtn fpn G Y;unfold Oper.wp;rw[ci];show next (a.put o.dst (a.eval b)) w
  rw[d9];exact em _ _ _ Y rfl ⟨I,rtn,fpn,G⟩
 have J:∀(S:ac7) (i:aH) (L:ac1) (q:ac7),c∈S->aP (ba I C.B) w i.1 L i.2 q->q.Nodup->(∀m∈q,∃cv∈S,∃fz,au st.h cv=some fz/\m∈fp cv)->a.eval b=bG i.1 L->Q ⟨(c,.ref c [])::kill S [] st.g,(c,i)::del S st.h⟩->o.wp E.P a w next a0:=by
  intro S i L q ek G M r ex Y;have v:=z.eI (lA.one (st:=st) (C:=C) (rt:=rt) (w':=w) (I':=I) (S:=S) (d:=c) (t:=i) (cs:=L) (f:=q) (.inl ek) (a6 _) rfl rfl rfl (λ_ _ _=>rfl) (λ_ _=>rfl) (λ_ e=>e) (λ_ e=>.inl e) G M (λm d8=>by
   obtain⟨x,l,ds,v,bl⟩:=r m d8;obtain⟨aw,fs,am,dl⟩:=(z.tree x ds v).2.2 m bl;exact⟨aw,am,.inr ⟨x,l,ds,v,bl⟩⟩))
  refine O _ _ _ (v.put bs (av:=.ref c []) ?_) Y;rw[ex];refine .ref (t:=i) (loc:=none) (by rw[iB,bU,aj rfl];rfl) ?_;rw[BT];exact aS.here
 unfold zf at e;split at e
 ·rename_i id n;split at e
  case h_2=>exact e.elim
  rename_i i u;rw[n] at p;obtain⟨an,F,ft⟩:=z.tree id i u;refine J [id,c] i (rt id) (fp id) ab an F (λm r=>⟨id,ab,i,u,r⟩) ?_ e;generalize co:a.eval b=d0 at p;cases p with|ref H X=>
  rw[u] at H;cases H;obtain⟨rfl,rfl,rfl⟩:=aS.eQ.1 X;rfl
 ·rename_i id ad _ n;cases r:Nat.beq id c with
  |true=>rw[r] at e;exact e.elim
  |false=>
   rw[r] at e;have el:id≠c:=λd5=>(by rw[d5,p7] at r;cases r);have v:=z.eI (S:=[c]) (keep:=[]) (new:=[]) (rtn:=rt) (fpn:=fp) (w':=w) (I':=I) ⟨a6 _,rfl,rfl,rfl,λ_ _ _=>rfl,λ_ _=>.refl _ _,λ_ e=>e,λ_ e=>.inl e,(λ_ _ e=>by cases e),(λ_ _ _ _ e=>by cases e),(λ_ e=>by cases e),(λ_ e=>by cases e)⟩;refine O _ _ _ (v.put bs (av:=.ref id ad) ?_) e;have:=v.aR (a:=a) b;have d6:aR (kill [c] [] st.g) b=.ref id ad:=by
    cases b with
    |tmp i=>
     show gt (kill [c] [] st.g) i=_;rw[nf,show gt st.g i=.ref id ad from n];have:c9 id [c]=false:=by
      cases W:c9 id [c]
      ·rfl
      exact absurd (by simpa using ej.1 W) el
     simp[ef,dr,ao.dK,ao.ids,this]
    |const fT=>exact absurd n (by cases fT<;>simp[aR])
    |global f6=>cases n
    |func q=>cases n
   rw[<-d6];exact this
 ·rename_i id k l n;split at e
  case h_2=>exact e.elim
  rename_i i d1 u;rw[n] at p;obtain⟨an,F,ft⟩:=z.tree id _ u;generalize co:a.eval b=d0 at p J O ci;cases p with|kn=>(exact J [id,c] ⟨.osl i,[]⟩ [.slice none 0 0] [] ab ⟨none,0,rfl,.inl ⟨rfl,rfl,rfl,rfl⟩⟩ ab ab rfl e)|view H X f9 gc ge=>
  rename_i m D gf s;rw[u] at H;cases H;obtain⟨al,_,d7⟩:=aS.eQ.1 X;cases al;obtain⟨f1,f4,T,G⟩:=an;rw[d7] at T;simp only[fJ,Value.slice.injEq,and_true] at T;obtain⟨rfl,rfl,rfl⟩:=T;rcases G with⟨R,_⟩|⟨f2,gi,y,R,ce,aw,fs,am,dl⟩
  ·cases R
  cases R;have V:((d1.take l).drop k).length=l-k:=(by simp;omega);refine J [id,c] ⟨.osl i,(d1.take l).drop k⟩ [.slice (some ⟨m,if s=k then D else D+k*i.size,none⟩) (l-k) (s-k)] (m::((y.take l).drop k).flatten) ab ?_ ?_ ?_ rfl e
  ·refine⟨some ⟨m,if s=k then D else D+k*i.size,none⟩,s-k,by rw[V],.inr ⟨m,_,(y.take l).drop k,rfl,rfl,by simp[aw],by simp only[V];omega,?_,?_⟩⟩
   ·intro fn a3 a4;by_cases A:s=k
    ·subst A;simp at a3 a4;omega
    rw[ag A] at a3 a4;have:k*i.size+(s-k)*i.size=s*i.size:=(by rw[<-e2];congr 1;omega);exact am fn U U
   intro x f0 q Z M;have f8:x<l-k:=(by rw[<-V];exact(ec.1 Z).1);rw[iJ,kT U] at Z M;obtain⟨d4,d2,f5,d3⟩:=dl (k+x) f0 q Z M;refine⟨d4,d2,?_,d3⟩;rw[ag U];rwa[show D+k*i.size+x*i.size=D+(k+x)*i.size by rw[e2];omega]
  ·rw[ce] at F;have N:((y.take l).drop k).flatten.Sublist y.flatten:=Bq _ _ _;rw[jd] at F|-;exact⟨λW=>F.1 (N.subset W),F.2.sublist N⟩
  intro f3 A;refine⟨id,ab,_,u,?_⟩;rw[ce];rcases dg.1 A with rfl|A
  ·simp
  have N:((y.take l).drop k).flatten.Sublist y.flatten:=Bq _ _ _;exact e1 _ (N.subset A)
 ·rename_i n;split at e
  case h_2=>exact e.elim
  rename_i i f7;rw[n] at p;refine J [c] ⟨.osl i,[]⟩ [.slice none 0 0] [] ab ⟨none,0,rfl,.inl ⟨rfl,rfl,rfl,rfl⟩⟩ ab ab ?_ e;generalize co:a.eval b=d0 at p;cases p;rfl
 exact e.elim
end
end
section
inductive kc (σ:ai) where
 |du (yD:List σ.den)
 |part (α:Type) (φ:α->Prop) (f:α->List σ.den)
 |bad
def pU (g:List (Nat×aH)) (b:ai) (k:ao):kc b:=
 match k with
 |.val (.a5 _ j) a=>if e:j=b then .du (e▸a) else .bad
 |.bQ (.slice none 0 0)=>.du []
 |.ref id c=>match au g id with
  |some ⟨f,d⟩=>bif b.pure then .part (List b.den) (λa=>c4 f d c (.osl b) a) (λa=>a) else .bad
  |none=>.bad
 |.view id c i h=>match au g id with
  |some ⟨f,d⟩=>bif b.pure then .part (List b.den) (λa=>c4 f d c (.osl b) a) (λa=>(a.take h).drop i) else .bad
  |none=>.bad
 |_=>.bad
def kc.to {f:ai} (g:kc f) (c:Nat->Prop) (b:List f.den->aO):tG:=
 match g with
 |.du e=>.part Unit (λ_=>c e.length) (λ_=>b e)
 |.part h i d=>.part h (λa=>i a/\c (d a).length) (λa=>b (d a))
 |.bad=>.bad
def zd (
 tt:List (TypeId×ai)) (t:List (Nat×ai)) (st:aO) (a:Nat) (s:TypeId) (j k:ao):tG:=
 match eX tt s with
 |none=>.bad
 |some o=>match j with
  |.ref id []=>match au st.h id with
   |some ⟨.osl b,d⟩=>bif a1 o b&&Nat.ble b.size 1300 then
    match b.pure,k with
    |false,.ref n []=>match au st.h n with
     |some ⟨.osl v,c⟩=>if e:v=b then bif Nat.beq id n then .bad else .part Unit (λ_=>d.length+c.length<=e7) (λ_=>⟨(a,.ref a [])::kill [id,n,a] [] st.g,(a,⟨.osl b,d++(e▸c)⟩)::del [id,n,a] st.h⟩) else .bad
     |_=>.bad
    |_,k=>(pU st.h b k).to (λl=>d.length+l<=e7) (λc=>⟨(a,.ref a [])::kill [id,a] [] st.g,(a,⟨.osl b,d++c⟩)::del [id,a] st.h⟩)
    else .bad
   |_=>.bad
  |.ref id f=>match au st.h id,au st.h a with
   |some ⟨m,j⟩,none=>match dF m f with
    |some (.osl b)=>bif a1 o b&&Nat.ble b.size 1300&&b.il then
     match pU st.h b k with
     |.du c=>.part (List b.den) (λd=>c4 m j f (.osl b) d/\d.length+c.length<=e7) (λ_=>⟨(a,.app id f b c [a])::kill [id] [(id,f),(id,[])] st.g,(a,⟨.c6,()⟩)::(id,⟨m,j⟩)::del [id] st.h⟩)
     |.part u w p=>.part (List b.den×u) (λi=>c4 m j f (.osl b) i.1/\w i.2/\i.1.length+(p i.2).length<=e7) (λi=>⟨(a,.app id f b (p i.2) [a])::kill [id] [(id,f),(id,[])] st.g,(a,⟨.c6,()⟩)::(id,⟨m,j⟩)::del [id] st.h⟩)
     |.bad=>.bad
     else .bad
    |_=>.bad
   |_,_=>.bad
  |.view id [] r q=>match au st.h id with
   |some ⟨.osl b,d⟩=>bif a1 o b&&Nat.ble b.size 1300 then
    (pU st.h b k).to (λl=>((d.take q).drop r).length+l<=e7) (λc=>⟨(a,.ref a [])::kill [id,a] [] st.g,(a,⟨.osl b,(d.take q).drop r++c⟩)::del [id,a] st.h⟩)
    else .bad
   |_=>.bad
  |.bQ (.slice none 0 0)=>match au t a with
   |some (.osl b)=>bif a1 o b&&Nat.ble b.size 1300 then
    (pU st.h b k).to (λl=>l<=e7) (λc=>⟨(a,.ref a [])::kill [a] [] st.g,(a,⟨.osl b,c⟩)::del [a] st.h⟩)
    else .bad
   |_=>.bad
  |_=>.bad
section
variable {E:dR} {C:dn} {st:aO} {a:Act} {A:acZ} {w:World} {I:Nat->Prop} {rt:Nat->ac1} {fp:Nat->ac7} {o:Oper} {Q:aO->Prop}
def vZ (I:Nat->Prop) (e:Nat->Prop) (w:World) (d:ai) (g:Value) (c:List d.den):Prop:=
 ∃b f a,g=.slice b c.length f/\iG (ba I e) w d b c a/\a.flatten=[]
def Ey (b:∀a∈V,a=[]):V.flatten=[]:=by
 induction V with
 |nil=>rfl
 |cons e f d=>rw[ir,b e ab,d (λa c=>b a (e1 _ c))];rfl
def iG.pure {f:c5->Nat->Prop} {e:ai} {g:Option Addr} {d:List e.den} {c:acW} (j:e.pure=true) (a:iG f w e g d c):c.flatten=[]:=by
 refine Ey (λn h=>?_);obtain⟨i,a⟩:=a;obtain⟨b,p,rfl⟩:=gD.1 h;rcases a with rfl|⟨l,o,_,a⟩
 ·simp only[oS] at i;omega
 have q:b<d.length:=U;obtain⟨m,_,_,k⟩:=a b d[b] c[b] ab ab;exact k.pure j
def kc.holds {c:ai} (e:kc c) (b:List c.den):Prop:=
 match e with
 |.du f=>b=f
 |.part g h d=>∃a:g,h a/\b=d a
 |.bad=>False
def kc.CI {f:kc d} {g:List d.den->aO} (b:(f.to k g).K Q):∃a,f.holds a/\k a.length/\Q (g a):=by
 unfold kc.to at b;cases f with
 |du a=>obtain⟨_,c,e⟩:=b;exact⟨a,rfl,c,e⟩
 |part l m j=>obtain⟨h,⟨c,e⟩,i⟩:=b;exact⟨j h,⟨h,c,rfl⟩,e,i⟩
 |bad=>exact b.elim
def tg (y:br C st a.tmps w I rt fp) {u:List d.den} (c:(pU st.h d (aR st.g b)).holds u):vZ I C.B w d (a.eval b) u:=by
 have e:=y.aR b;unfold pU at c;generalize Y:a.eval b=a3 at e;split at c
 ·rename_i ap a0 q j;split at c
  case isFalse=>exact c.elim
  rename_i n;subst n;obtain rfl:u=q:=c;rw[j] at e;cases e with|val H=>
  have P:=H;obtain⟨_,v,m,rfl,_⟩:=P;obtain⟨_,f⟩:=iG.a5 H;exact⟨v,m,_,rfl,f,ab⟩
 ·rename_i j;obtain rfl:u=[]:=c;rw[j] at e;cases e;exact⟨none,0,[],rfl,⟨rfl,.inl rfl⟩,rfl⟩
 ·rename_i id O j;split at c
  case h_2=>exact c.elim
  rename_i R Q o;cases l:d.pure with
  |false=>rw[l] at c;exact c.elim
  |true=>
   rw[l] at c;obtain⟨q,z,rfl⟩:=c;rw[j] at e;cases e with|ref p D=>
   rw[o] at p;cases p;obtain⟨rfl,x,s,_⟩:=y.jk o z D;have N:=s;obtain⟨v,m,rfl,_⟩:=N;obtain⟨_,_,r,f,_⟩:=iG.osl s;exact⟨v,m,r,rfl,f,f.pure l⟩
 ·rename_i id O i k j;split at c
  case h_2=>exact c.elim
  rename_i R Q o;cases l:d.pure with
  |false=>rw[l] at c;exact c.elim
  |true=>
   rw[l] at c;obtain⟨q,z,rfl⟩:=c;rw[j] at e;cases e with|kn=>(exact⟨none,0,[],rfl,⟨rfl,.inl rfl⟩,rfl⟩)|view p D Z ad am=>
   rename_i J G an m;rw[o] at p;cases p;obtain⟨n,x,s,_⟩:=y.jk o z D;cases n;obtain⟨al,_,r,f,_⟩:=iG.osl s;have A:((q.take k).drop i).length=k-i:=(by simp;omega);show vZ I C.B w d _ ((q.take k).drop i);refine⟨_,m-i,(r.take k).drop i,by rw[A],⟨by simp[f.1],?_⟩,?_⟩
   ·obtain⟨W,f⟩:=f;by_cases X:k=i
    ·left;apply lm;omega
    right;rcases f with rfl|⟨S,av,n,f⟩
    ·simp at A;omega
    cases n;refine⟨J,_,rfl,λt b x e E=>?_⟩;have V:t<k-i:=(by rw[<-A];exact(ec.1 e).1);rw[iJ,kT U] at e E;obtain⟨M,K,T,L⟩:=f (i+t) b x e E;refine⟨M,K,?_,L⟩;rw[ag U];rwa[show G+i*d.size+t*d.size=G+(i+t)*d.size by rw[e2];omega]
   have:=f.pure l;have F:=Bq r i k;rw[this] at F;exact List.sublist_nil.1 F
 exact c.elim
def Ze {b p:Nat} {q:List d.den} (A:aP f w (.osl d) [.slice (some ⟨b,O,none⟩) p M] q m) (l:m.Nodup) (N:c<=h) (P:h<=p) (Q:p<=M):∃i,aP f w (.osl d) [.slice (some ⟨b,if M=c then O else O+c*d.size,none⟩) (h-c) (M-c)] ((q.take h).drop c) i/\i.Nodup/\∀r∈i,r∈m:=by
 obtain⟨H,J,v,C⟩:=A;simp only[fJ,Value.slice.injEq,and_true] at v;obtain⟨rfl,rfl,rfl⟩:=v;rcases C with⟨j,_⟩|⟨I,R,e,j,rfl,aw,S,E,F⟩
 ·cases j
 cases j;have k:((q.take h).drop c).length=h-c:=(by simp;omega);have n:((e.take h).drop c).flatten.Sublist e.flatten:=Bq _ _ _;refine⟨b::((e.take h).drop c).flatten,⟨some ⟨b,if M=c then O else O+c*d.size,none⟩,M-c,by rw[k],.inr ⟨b,_,(e.take h).drop c,rfl,rfl,by simp[aw],by rw[k];omega,?_,?_⟩⟩,?_,?_⟩
 ·intro D s t;by_cases a:M=c
  ·subst a;simp at s t;omega
  rw[ag a] at s t;have:c*d.size+(M-c)*d.size=M*d.size:=(by rw[<-e2];congr 1;omega);exact E D U U
 ·intro g G m o u;have L:g<h-c:=(by rw[<-k];exact(ec.1 o).1);rw[iJ,kT U] at o u;obtain⟨z,x,K,y⟩:=F (c+g) G m o u;refine⟨z,x,?_,y⟩;rw[ag U];rwa[show O+c*d.size+g*d.size=O+(c+g)*d.size by rw[e2];omega]
 ·rw[jd] at l|-;exact⟨λB=>l.1 (n.subset B),l.2.sublist n⟩
 intro r a;rcases dg.1 a with rfl|a
 ·simp
 exact e1 _ (n.subset a)
def HK (d:o.op=.call {callee:=.builtin .append,args:=#[b,i],argTypes:=#[G,G]}) {c:Value} (f:(Builtin.append_ #[G,G] o.type #[a.eval b,a.eval i]).run E.P w=.ok c e):(execOp a.eval o).run E.P w=.ok (.value c) e:=by simp only[execOp,d,resolve,invoke,builtin,Sem.run_bind,Sem.run_pure,Result.andThen_ok,vO,eo,p5,f]
def dk.v7 (d2:o.op=.call {callee:=.builtin .append,args:=#[b,i],argTypes:=#[G,G]}) (a3:o.dst=some M) (bs:C.ok M) (v:br C st a.tmps w I rt fp) {next:Act->World->Prop} (d1:∀R A u,Q R->A.defers=a.defers->e3 C R A.tmps u->next A u) {W:ai} (ap:eX E.tt G=some W) (dl:a1 W q=true) (d6:q.size<=1300) {S:ac7} (a4:M∈S) {N H:Nat} {xs x:List q.den} {f1:ac7} (d8:a.eval b=.slice r N H) (d5:aP (ba I C.B) w (.osl q) [.slice r N H] xs f1) (co:f1.Nodup) (z:∀e∈f1,∃j∈S,∃k,au st.h j=some k/\e∈fp j) (d9:a.eval i=.slice T x.length O) (ce:iG (ba I C.B) w q T x V) (cv:V.flatten.Nodup) (K:∀e∈V.flatten,∃j∈S,∃k,au st.h j=some k/\e∈fp j) (bl:∀e∈f1,e∉V.flatten) (ds:xs.length+x.length<=e7) (d3:Q ⟨(M,.ref M [])::kill S [] st.g,(M,⟨.osl q,xs++x⟩)::del S st.h⟩):o.wp E.P a w next s:=by
 obtain⟨j,f0,f3,Z,ad⟩:=eX.ok ap;have J:=ad.lay dl;obtain⟨f4,_,ek,_⟩:=J.info;have F:∀j k,au st.h j=some k->∀e∈fp j,e<w.heap.size/\∀L,¬ba I C.B L e:=λj k m e l=>⟨((v.tree j k m).2.2 e l).2.2.1,v.notM m e l⟩;obtain⟨y,u,f2,el,eq,_,aK,ex,fn,fs,ft,fz,em,f8,_,fT⟩:=HL (P:=E.P) (ty:=o.type) Z J ek.info d6 d5 (c:=O) ce co (λe l=>by obtain⟨j,_,k,m,n⟩:=z e l;exact(F j k m e n).2) cv bl (λL e d0=>v.ib e (lM d0)) (λe l=>by obtain⟨j,_,k,m,n⟩:=z e l;exact(F j k m e n).1) (λe l=>by obtain⟨j,_,k,m,n⟩:=K e l;exact(F j k m e n).1) ds;have d4:(execOp a.eval o).run E.P w=.ok (.value y) u:=HK (E:=E) d2 (by rw[d8,d9];exact el);have a0:∀e∈f2,(∃j∈S,∃k,au st.h j=some k/\e∈fp j)\/(w.heap.size<=e/\e<u.heap.size):=λe l=>by
  rcases ex e l with p|p|p
  ·exact .inl (z e p)
  ·exact .inl (K e p)
  exact .inr p
 have d7:=v.eI (lA.one (st:=st) (C:=C) (rt:=rt) (w':=u) (I':=I) (S:=S) (d:=M) (t:=⟨.osl q,xs++x⟩) (cs:=[y]) (f:=f2) (.inl a4) fn fs ft fz (λe l an=>em e l (λci=>by obtain⟨j,D,k,m,n⟩:=z e ci;exact an j D k m n)) fT (λ_ p=>p) (λ_ p=>.inl p) eq aK (λe l=>by
   rcases a0 e l with⟨j,D,k,m,n⟩|⟨X,Y⟩
   ·obtain⟨aw,f5,f6,f7⟩:=(v.tree j k m).2.2 e n;exact⟨aw,U,.inr ⟨j,D,k,m,n⟩⟩
   exact⟨λam=>by have:=v.ib e (.inl am);omega,Y,.inl X⟩))
 unfold Oper.wp;rw[d4];show next (a.put o.dst y) u
 rw[a3];refine d1 _ _ _ d3 rfl ⟨I,_,_,d7.put bs (av:=.ref M []) ?_⟩;have:y=bG (.osl q) [y]:=rfl;rw[this];refine .ref (t:=⟨.osl q,xs++x⟩) (loc:=none) (by rw[iB,bU,aj rfl];rfl) ?_;rw[BT];exact aS.here
end
end
section
section
variable {E:dR} {C:dn} {st:aO} {a:Act} {A:acZ} {w:World} {I:Nat->Prop} {rt:Nat->ac1} {fp:Nat->ac7} {o:Oper} {Q:aO->Prop}
def HN (lp:o.op=.call {callee:=.builtin .append,args:=#[b,i],argTypes:=#[G,G]}) (an:o.dst=some M) (i3:C.ok M) (y:br C st a.tmps w I rt fp) {next:Act->World->Prop} (lo:∀ge ci w',Q ge->ci.defers=a.defers->e3 C ge ci.tmps w'->next ci w') {ce:ai} (is:eX E.tt G=some ce) (k0:a1 ce q=true) (mc:q.size<=1300) (d4:q.il=true) {id:Nat} (i8:aR st.g b=.ref id l) {p:d.den} (v:au st.h id=some ⟨d,p⟩) (ap:au st.h M=none) {D a3:List q.den} (d1:c4 d p l (.osl q) D) {S2:ac7} (mt:∃el F J,a.eval i=.slice el a3.length F/\iG (ba I C.B) w q el a3 J/\J.flatten.Nodup/\∀e∈J.flatten,∃k∈S2,∃H,au st.h k=some H/\e∈fp k) (cv:∀k∈S2,k≠id/\∃ce,au st.h k=some ce) (la:D.length+a3.length<=e7) (d5:Q ⟨(M,.app id l q a3 (M::S2))::kill [id] [(id,l),(id,[])] st.g,(M,⟨.c6,()⟩)::(id,⟨d,p⟩)::del [id] st.h⟩):o.wp E.P a w next s:=by
 obtain⟨k,tl,ad,hw,ic⟩:=eX.ok is;have ex:=ic.lay k0;obtain⟨t3,_,of,_⟩:=ex.info;have d7:=y.aR b;rw[i8] at d7;generalize mp:a.eval b=t5 at d7;cases d7 with|ref x d3=>
 rename_i t7 em gi;rw[v] at x;cases x;simp only at d3;obtain⟨ol,d8,d9⟩:=y.tree id _ v;obtain⟨t4,t0,W,ek,hc,eq,hi,Z,hr,hs,hv⟩:=xj l (loc:=none) ol (λ_ _ j=>by cases j) d8 (λ_ _ j=>by cases j) (y.notM v) d1;obtain⟨gl,al,go⟩:=d3.ij hc;subst gl;subst al;subst go;have f1:=Z.nodup_iff.1 d8;rw[hC] at f1;obtain⟨lb,f0,le⟩:=f1;obtain⟨co,cs,rfl,_⟩:=(show aP (ba I C.B) w (.osl q) gi D W from eq);obtain⟨el,F,J,mz,jp,kd,d0⟩:=mt;have N:∀e∈W,e∈fp id:=λe f=>Z.mem_iff.2 (by simp[f]);have L:∀e∈fp id,e<w.heap.size/\∀R,¬ba I C.B R e:=λe f=>⟨(d9 e f).2.2.1,y.notM v e f⟩;have f4:∀e∈J.flatten,e<w.heap.size:=λe f=>(by obtain⟨k,n,H,O,am⟩:=d0 e f;exact((y.tree k H O).2.2 e am).2.2.1);obtain⟨gf,w',f2,or,pl,f9,gc,pm,pr,ps,rd,rg,f8,os,_,rs⟩:=HL (P:=E.P) (ty:=o.type) hw ex of.info mc eq (c:=F) jp lb (λe f=>(L e (N e f)).2) kd (λe f i1=>by
  obtain⟨k,n,H,O,am⟩:=d0 e i1;exact y.dis id k _ H v O (cv k n).1.symm e (N e f) am)
  (λR e d2=>y.ib e (lM d2)) (λe f=>(L e (N e f)).1) f4 la
 have l2:(execOp a.eval o).run E.P w=.ok (.value gf) w':=HK (E:=E) lp (by rw[mp,mz];exact or);have f3:∀e∈ek,e<w.heap.size/\e∉W:=λe f=>⟨(L e (Z.mem_iff.2 (by simp[f]))).1,λj=>le e j e f rfl⟩;have d6:∀e,(∃R,ba I C.B R e)\/e∈ek->bN w w' e:=λe f=>by
  rcases f with⟨R,d2⟩|f
  ·exact os R e d2
  exact .of_heap (f8 e (f3 e f).1 (f3 e f).2)
 have i0:∀e T,em=some (e,T)->dL w' e T [.slice co D.length cs]:=λe T m=>by
  have f:e∈ek:=by
   rcases hr e T m with⟨bs,j,_⟩|j
   ·cases j
   exact j
  exact(hi e T m).1.et (d6 e (.inr f))
 obtain⟨t1,X,nd,_,ne,_,nn,f5⟩:=hs w' (ba I C.B) [.slice co D.length cs] D W p (λ_ _ j=>j) (λe f=>by
  have a4:bN w w' e:=d6 e (by
   rcases f with j|j|⟨T,j⟩
   ·exact .inl j
   ·exact .inr j
   cases j)
  exact⟨λA _=>(a4.1 A).1,λA=>(a4.1 A).2,λA=>by rw[(a4.1 A).1],a4.2⟩) f9 (λ_ _=>rfl) i0 (dA.same d1)
 obtain rfl:=ne rfl (.inr rfl);have K:X.Perm (fp id):=nn.trans Z.symm;have u:M≠id:=λm=>(by rw[m,v] at ap;cases ap);have ft:∀e∈f2,e∈W\/e∈J.flatten\/(w.heap.size<=e/\e<w'.heap.size):=λe f=>pm e f
 let Y:=f2.filter λe=>decide (w.heap.size<=e)
 have ds:∀e∈Y,w.heap.size<=e/\e<w'.heap.size:=λe f=>by
  have fn:=gr.1 f;have ad:w.heap.size<=e:=(by simpa using fn.2);rcases ft e fn.1 with j|j|j
  ·have:=(L e (N e j)).1;omega
  ·have:=f4 e j;omega
  exact j
 have mo:=y.eI (S:=[id]) (keep:=[(id,l),(id,[])]) (new:=[(M,⟨.c6,()⟩),(id,⟨d,p⟩)]) (rtn:=λk=>if k=M then[] else rt id) (fpn:=λk=>if k=M then Y else X) (w':=w') (I':=I) ⟨pr,ps,rd,rg,λe f io=>f8 e f (λj=>io id ab _ v (N e j)),λe f=>.of_eq (rs e f),λ_ j=>j,λ_ j=>.inl j,(by
   intro k V n;rw[bU] at n;split at n
   ·rename_i m;subst m;cases n;refine⟨.inr ap,(by simp only[if_true];exact rfl),(by simp only[if_true];exact gc.filter _),λe f=>?_⟩;simp only[if_true] at f;obtain⟨aw,U⟩:=ds e f;exact⟨λii=>by have:=y.ib e (.inl ii);omega,U,.inl aw⟩
   ·rw[bU] at n;split at n
    ·rename_i _ m;subst m;cases n;have r:¬(id=M):=λm=>u m.symm;refine⟨.inl ab,(by simp only[ag r];exact nd),(by simp only[ag r];rw[K.nodup_iff];exact d8),λe f=>?_⟩;simp only[ag r] at f;rw[K.mem_iff] at f;exact⟨(d9 e f).1,by have:=(d9 e f).2.2.1;omega,.inr ⟨id,ab,_,v,f⟩⟩
    cases n),(by
   intro k A s0 tf n kg fT e f;have fs:∀bl V,au [(M,(⟨.c6,()⟩:aH)),(id,⟨d,p⟩)] bl=some V->bl=M\/bl=id:=λbl V z=>by
    rw[bU] at z;split at z
    ·rename_i m;exact .inl m.symm
    rw[bU] at z;split at z
    ·rename_i _ m;exact .inr m.symm
    cases z
   have r:¬(id=M):=λm=>u m.symm;rcases fs k s0 n with rfl|rfl<;>rcases fs A tf kg with rfl|rfl
   ·exact absurd rfl fT
   ·simp only[if_true] at f;simp only[ag r];rw[K.mem_iff];intro j;have:=(L e j).1;have:=(ds e f).1;omega
   ·simp only[ag r] at f;simp only[if_true];rw[K.mem_iff] at f;intro j;have:=(L e f).1;have:=(ds e j).1;omega
   ·exact absurd rfl fT),(by
   intro k n V x;have a0:k=(id,l)\/k=(id,[]):=(by simpa using n);have ad:k.1=id:=by rcases a0 with rfl|rfl<;>rfl
   have x:au st.h id=some V:=(by rw[<-ad];exact x);rw[v] at x;obtain rfl:=ee x;have r:¬(id=M):=λm=>u m.symm;refine⟨⟨d,p⟩,by rw[ad,bU,ag u,bU,aj rfl],rfl,by rw[ad];simp only[ag r],(by rcases a0 with rfl|rfl;exact⟨_,d3.ty⟩;exact⟨d,by cases d<;>rfl⟩),λbs _ _ _ z d5=>?_⟩;rcases a0 with rfl|rfl
   ·exact f5.2 bs _ _ _ z d5
   ·rw[BI] at z;cases z),(by
   intro k n V x bs t8 t6 f6 to t2 an d4 f0 fz lt;have a0:k=(id,l)\/k=(id,[]):=(by simpa using n);rcases a0 with rfl|rfl
   ·rw[v] at x;obtain rfl:=ee x;have r:¬(id=M):=λm=>u m.symm;refine⟨⟨d,p⟩,by rw[bU,ag u,bU,aj rfl],fz,λF i2=>?_⟩;obtain⟨aw,U⟩:=hv bs _ _ _ _ _ an (by exact d4) fz f0 lt F i2;exact⟨by simp only[ag r];exact K.mem_iff.2 (Z.mem_iff.2 (kU _ aw)),d6 F (.inr aw)⟩
   rw[se] at an;cases an)⟩
 unfold Oper.wp;rw[l2];show next (a.put o.dst gf) w'
 rw[an];refine lo _ _ _ d5 rfl ⟨I,_,_,mo.put i3 (av:=.app id l q a3 (M::S2)) ?_⟩;have r:¬(id=M):=λm=>u m.symm;have no:au ([(M,(⟨.c6,()⟩:aH)),(id,⟨d,p⟩)]++del [id] st.h) id=some ⟨d,p⟩:=(by rw[iB,bU,ag u,bU,aj rfl];rfl);have f6:au ([(M,(⟨.c6,()⟩:aH)),(id,⟨d,p⟩)]++del [id] st.h) M=some ⟨.c6,()⟩:=(by rw[iB,bU,aj rfl];rfl);have f7:au [(M,(⟨.c6,()⟩:aH)),(id,⟨d,p⟩)] id=some ⟨d,p⟩:=(by rw[bU,ag u,bU,aj rfl]);have nx:au [(M,(⟨.c6,()⟩:aH)),(id,⟨d,p⟩)] M=some ⟨.c6,()⟩:=(by rw[bU,aj rfl]);have gt:dz [(M,(⟨.c6,()⟩:aH)),(id,⟨d,p⟩)] (λk=>if k=M then Y else X) fp id=X:=(by simp only[dz,f7,ag r]);have gs:dz [(M,(⟨.c6,()⟩:aH)),(id,⟨d,p⟩)] (λk=>if k=M then Y else X) fp M=Y:=(by simp only[dz,nx,if_true]);have on:dz [(M,(⟨.c6,()⟩:aH)),(id,⟨d,p⟩)] (λk=>if k=M then[] else rt id) rt id=rt id:=(by simp only[dz,f7,ag r]);have lk:aS w' d none (rt id) l (.osl q) em [.slice co D.length cs]:=f5.1;refine .app (t:=⟨d,p⟩) no d4 (by rw[on];exact lk) d1 f9 (λe f=>by rw[gt,K.mem_iff];exact N e f) pl ?_ ?_ gc
 ·intro k n;rcases dg.1 n with rfl|n
  ·exact⟨u,_,f6⟩
  obtain⟨aw,ti,U⟩:=cv k n;have dl:¬(M=k):=λm=>(by rw[<-m,ap] at U;cases U);refine⟨aw,ti,?_⟩;rw[iB,bU,ag dl,bU,ag (λm=>aw m.symm),jT,ag (by simpa using aw),U];rfl
 intro e f;rcases ft e f with j|j|j
 ·exact .inl j
 ·obtain⟨k,n,H,O,am⟩:=d0 e j;obtain⟨aw,_⟩:=cv k n;have dl:¬(M=k):=λm=>(by rw[<-m,ap] at O;cases O);have n5:au [(M,(⟨.c6,()⟩:aH)),(id,⟨d,p⟩)] k=none:=(by rw[bU,ag dl,bU,ag (λm=>aw m.symm)];rfl);exact .inr ⟨k,e1 _ n,by simp only[dz,n5];exact am⟩
 exact .inr ⟨M,ab,by rw[gs];exact gr.2 ⟨f,by simpa using j.1⟩⟩
def HM (O:o.op=.call {callee:=.builtin .append,args:=#[b,i],argTypes:=#[G,G]}) (A:o.dst=some c) (F:C.ok c) (y:br C st a.tmps w I rt fp) {next:Act->World->Prop} (N:∀m e p,Q m->e.defers=a.defers->e3 C m e.tmps p->next e p) {n:ai} (z:eX E.tt G=some n) (K:a1 n d=true) (S:d.size<=1300) (M:d.il=true) {id:Nat} (H:aR st.g b=.ref id l) {j:q.den} (T:au st.h id=some ⟨q,j⟩) (D:au st.h c=none) {r f:List d.den} (J:c4 q j l (.osl d) r) (U:vZ I C.B w d (a.eval i) f) (L:r.length+f.length<=e7) (R:Q ⟨(c,.app id l d f [c])::kill [id] [(id,l),(id,[])] st.g,(c,⟨.c6,()⟩)::(id,⟨q,j⟩)::del [id] st.h⟩):o.wp E.P a w next s:=by obtain⟨V,t,u,v,x,k⟩:=U;exact HN (S2:=[]) O A F y N z K S M H T D J ⟨V,t,u,v,x,by rw[k];exact .nil,by rw[k];simp⟩ ab L R
end
end
section
section
variable {E:dR} {C:dn} {st:aO} {o:Oper} {Q:aO->Prop}
def dk.app {d3:List (Nat×ai)} {W:TypeId} {A N:Operand} {t:Nat} (z:o.op=.call {callee:=.builtin .append,args:=#[A,N],argTypes:=#[W,W]}) (w:o.dst=some t) (x:C.ok t) (a:(zd E.tt d3 st t W (aR st.g A) (aR st.g N)).K Q):dk E C o st Q:=by
 rintro F J ⟨D,U,G,c⟩ next f0 y
 have r:=c.aR A;unfold zd at a;split at a
 ·exact a.elim
 rename_i V v;split at a
 ·rename_i id u;split at a
  case h_2=>exact a.elim
  rename_i e k i;cases b:(a1 V e&&Nat.ble e.size 1300) with
  |false=>rw[b] at a;exact a.elim
  |true=>
  rw[b] at a;simp only[bc] at b;obtain⟨l,d⟩:=b;have d:=eM d;simp only[cond_true] at a;rw[u] at r;generalize H:F.eval A=d1 at r;cases r with|ref M am=>
  rw[i] at M;cases M;obtain⟨al,_,L⟩:=aS.eQ.1 am;subst al;subst L;obtain⟨I,T,fs⟩:=c.tree id _ i;obtain⟨av,Y,a4,_⟩:=(show aP (ba D C.B) J (.osl e) (U id) k (G id) from I);have cv:F.eval A=.slice av k.length Y:=(by rw[H];show(U id).headD undef=_;rw[a4];rfl);have ds:aP (ba D C.B) J (.osl e) [.slice av k.length Y] k (G id):=(by rw[<-a4];exact I);split at a
  ·rename_i m f6 d4;split at a
   case h_2=>exact a.elim
   rename_i d2 s R;split at a
   case isFalse=>exact a.elim
   rename_i Z;subst Z;cases P:Nat.beq id m with
   |true=>rw[P] at a;exact a.elim
   |false=>
   rw[P] at a;have d8:id≠m:=λZ=>(by rw[Z,p7] at P;cases P);obtain⟨_,h,a⟩:=a;have an:=c.aR N;rw[d4] at an;generalize q:F.eval N=gi at an;cases an with|ref cs d7=>
   rw[R] at cs;cases cs;obtain⟨al,_,L⟩:=aS.eQ.1 d7;subst al;subst L;obtain⟨d0,fz,gf⟩:=c.tree m _ R;obtain⟨a0,a3,bl,_⟩:=(show aP (ba D C.B) J (.osl d2) (U m) s (G m) from d0);have d9:F.eval N=.slice a0 s.length a3:=(by rw[q];show(U m).headD undef=_;rw[bl];rfl);have ft:aP (ba D C.B) J (.osl d2) [.slice a0 s.length a3] s (G m):=(by rw[<-bl];exact d0);obtain⟨_,_,O,p,ce,d6,_⟩:=iG.osl ft;exact dk.v7 z w x c y v l d (S:=[id,m,t]) ab cv ds T (λn b=>⟨id,ab,_,i,b⟩) d9 p (d6 fz) (λn b=>⟨m,ab,_,R,ce n b⟩) (λn b d5=>c.dis id m _ _ i R d8 n b (ce n d5)) h a
  obtain⟨s,j,h,a⟩:=kc.CI a;obtain⟨ap,X,O,q,p,f⟩:=tg c j;exact dk.v7 z w x c y v l d (S:=[id,t]) ab cv ds T (λn b=>⟨id,ab,_,i,b⟩) q p (by rw[f];simp) (by rw[f];simp) (by rw[f];simp) h a
 ·rename_i id ge f7 u;split at a
  case h_2=>exact a.elim
  rename_i gs gl i bs;split at a
  case h_2=>exact a.elim
  rename_i e f8;cases b:(a1 V e&&Nat.ble e.size 1300&&e.il) with
  |false=>rw[b] at a;exact a.elim
  |true=>
  rw[b] at a;simp only[bc] at b;obtain⟨⟨l,d⟩,co⟩:=b;have d:=eM d;simp only[cond_true] at a;split at a
  ·rename_i s j;obtain⟨k,⟨ad,h⟩,a⟩:=a;exact HM z w x c y v l d co u i bs ad (tg c (by rw[j];exact rfl)) h a
  ·rename_i go gt f2 j;obtain⟨⟨k,ex⟩,⟨ad,ek,h⟩,a⟩:=a;exact HM z w x c y v l d co u i bs ad (tg c (by rw[j];exact⟨ex,ek,rfl⟩)) h a
  exact a.elim
 ·rename_i id dl ci u;split at a
  case h_2=>exact a.elim
  rename_i e k i;cases b:(a1 V e&&Nat.ble e.size 1300) with
  |false=>rw[b] at a;exact a.elim
  |true=>
  rw[b] at a;simp only[bc] at b;obtain⟨l,d⟩:=b;have d:=eM d;simp only[cond_true] at a;rw[u] at r;obtain⟨I,T,fs⟩:=c.tree id _ i;generalize H:F.eval A=d1 at r;cases r with|kn=>(obtain⟨s,j,h,a⟩:=kc.CI a;obtain⟨ap,X,O,q,p,f⟩:=tg c j;exact dk.v7 z w x c y v l d (S:=[id,t]) ab (xs:=[]) (f1:=[]) H ⟨none,0,rfl,.inl ⟨rfl,rfl,rfl,rfl⟩⟩ ab ab q p (by rw[f];simp) (by rw[f];simp) ab (by simpa using h) (by simpa using a))|view M am el em eq=>
  rename_i n gc f9 Y;rw[i] at M;cases M;obtain⟨al,_,L⟩:=aS.eQ.1 am;cases al;obtain⟨s,j,h,a⟩:=kc.CI a;obtain⟨ap,X,O,q,p,f⟩:=tg c j;rw[L] at I;obtain⟨fT,aw,fn,fp⟩:=Ze (show aP (ba D C.B) J (.osl e) _ k (G id) from I) T el em eq;have f5:((k.take ci).drop dl).length=ci-dl:=(by obtain⟨f4,_⟩:=iG.osl (show aP (ba D C.B) J (.osl e) _ k (G id) from I);simp;omega);exact dk.v7 z w x c y v l d (S:=[id,t]) ab H aw fn (λn b=>⟨id,ab,_,i,fp n b⟩) q p (by rw[f];simp) (by rw[f];simp) (by rw[f];simp) h a
 ·rename_i u;split at a
  case h_2=>exact a.elim
  rename_i e f3;cases b:(a1 V e&&Nat.ble e.size 1300) with
  |false=>rw[b] at a;exact a.elim
  |true=>
  rw[b] at a;simp only[bc] at b;obtain⟨l,d⟩:=b;have d:=eM d;simp only[cond_true] at a;rw[u] at r;generalize H:F.eval A=d1 at r;cases r;obtain⟨s,j,h,a⟩:=kc.CI a;obtain⟨ap,X,O,q,p,f⟩:=tg c j;exact dk.v7 z w x c y v l d (S:=[t]) ab (xs:=[]) (f1:=[]) H ⟨none,0,rfl,.inl ⟨rfl,rfl,rfl,rfl⟩⟩ ab ab q p (by rw[f];simp) (by rw[f];simp) ab (by simpa using h) (by simpa using a)
 exact a.elim
end
end
section
def gO (E:dR) (C:dn) (B:Array Oper) (g:ac7) (st:aO) (Q:aO->Prop):Prop:=
 ∀(a:Act) (e:World),e3 C st a.tmps e->∀c:Exit->Act->World->Prop,(∀d b f,Q d->b.defers=a.defers->e3 C d b.tmps f->c .normal b f)->wpOps E.P B c g a e
def i5 (B:Array Oper) (st:aO) (d:Oper) (a:Bool):Prop:=
 match d.guard with
 |none=>a=true
 |some (c,e)=>match(B[c]?).bind (·.dst) with
  |some b=>match gt st.g b with
   |.val .bool f=>(f==e)=a
   |.bQ (.tuple _)=>a=false
   |_=>False
  |none=>False
section
variable {E:dR} {C:dn} {st:aO} {B:Array Oper} {Q:aO->Prop}
def i5.ok {c:Act} (j:br C st c.tmps e k o p) {m:Oper} {i:Bool} (b:i5 B st m i):Region.wanted m (yielded B c.tmps)=i:=by
 unfold i5 at b;unfold Region.wanted;split at b
 ·rename_i g;rw[g];exact b.symm
 rename_i v u g;rw[g];split at b
 ·rename_i d l;split at b
  ·rename_i n h;have:=j.tmp d;rw[h] at this;generalize a:c.tmps.getD d undef=t at this;cases this with|val r=>
   obtain⟨_,rfl⟩:=r;have q:c.tmps[d]?=some (.bool n):=by
    rw[yF] at a;cases f:c.tmps[d]? with
    |none=>rw[f] at a;cases a
    |some s=>rw[f] at a;simp only[ig] at a;rw[a];rfl
   simp only[yielded,l,aG,q];rw[<-b];cases n<;>cases u<;>rfl
  ·rename_i w h;have:=j.tmp d;rw[h] at this;generalize a:c.tmps.getD d undef=t at this;cases this;subst b;simp only[yielded,l,aG];rw[yF] at a;cases f:c.tmps[d]? with
   |none=>rfl
   |some s=>rw[f] at a;simp only[ig] at a;rw[a];rfl
  exact b.elim
 exact b.elim
def gO.nil (b:Q st):gO E C B [] st Q:=λa e c _ d=>d st a e b rfl c
def gO.op {a:Oper} (p:B[c]?=some a) (t:i5 B st a true) (i:dk E C a st (λd=>gO E C B m d Q)):gO E C B (c::m) st Q:=by intro f v b e q;obtain⟨y,A,z,k⟩:=id b;simp only[wpOps,p];rw[t.ok k,aj rfl];exact .inl (i f v b _ _ (λd g w o l r=>o g w r e (λu h x j n s=>q u h x j (n.trans l) s)))
def gO.skip {a:Oper} (q:B[M]?=some a) (n:a.dst=some c) (p:C.ok c) (t:i5 B st a false) (j:gO E C B m ⟨(c,.bQ undef)::st.g,st.h⟩ Q):gO E C B (M::m) st Q:=by intro y w l e r;obtain⟨d,u,i,b⟩:=id l;simp only[wpOps,q];rw[t.ok b,ag ab,n];exact j _ w ⟨d,u,i,b.put p (.bQ undef)⟩ e (λv f x k o s=>r v f x k o s)
def e3.we {b:acZ} {c:World} {st a:aO} (f:e3 C st b c) (j:m0 a.g st) (k:m1 a.h st) (l:kE a.g a.h=true):e3 C a b c:=by obtain⟨d,m,e,i⟩:=f;exact⟨d,m,e,i.we j k (kE.get l)⟩
def J (E:dR) (C:dn) (e:Code) (st:aO) (Q:Exit->aO->Prop):Prop:=
 ∀(a:Act) (d:World),e3 C st a.tmps d->a.defers=[]->e.wp E.P (λf b g=>∃c,Q f c/\e3 C c b.tmps g/\b.defers=[]) a d
variable {A:Exit->aO->Prop}
def J.Zg {b:Code} {a:aO} (i:m0 a.g st) (j:m1 a.h st) (k:kE a.g a.h=true) (d:J E C b a A):J E C b st A:=λc l e f=>d c l (e.we i j k) f
def J.region {id:Nat} (c:gO E C B (List.range B.size) st (λa=>A .normal a)):J E C (.region id B false) st A:=
 λb i d e=>wp_region (c b i d _ (λa _a' _w' g f h=>⟨a,g,h,f.trans e⟩))
def J.skip (a:A .normal st):J E C .skip st A:=λ_ _ b c=>wp_skip ⟨st,a,b,c⟩
def J.exit {id:Nat} (a:A (.exit id) st):J E C (.exit id) st A:=λ_ _ b c=>wp_exit ⟨st,a,b,c⟩
def J.ret (a:A .ret st):J E C .ret st A:=λ_ _ b c=>wp_ret ⟨st,a,b,c⟩
def XP (E:dR) (C:dn) (b:Code) (A:Exit->aO->Prop):Exit->aO->Prop
 |.normal,a=>J E C b a A
 |e,a=>A e a
def J.seq {d e:Code} (i:J E C d st (XP E C e A)):J E C (.seq d e) st A:=λf m j k=>by
 refine wp_seq (wp_mono (i f m j k) ?_);rintro h g n ⟨l,a,b,c⟩;cases h with
 |normal=>exact a g n b c
 |_=>exact⟨l,a,b,c⟩
def J.cond {a:Operand} {l m:Code} {c:Bool} (n:aR st.g a=.val .bool c) (p:c=true->J E C l st A) (o:c=false->J E C m st A):J E C (.cond a l m) st A:=by
 rintro b k ⟨f,j,h,e⟩ i;have:=e.aR a;rw[n] at this;generalize q:b.eval a=s at this;cases this with|val r=>
 obtain⟨_,rfl⟩:=r;exact wp_cond_split q (λd=>p d b k ⟨f,j,h,e⟩ i) (λd=>o d b k ⟨f,j,h,e⟩ i)
def Dy (id:Nat) (A:Exit->aO->Prop):Exit->aO->Prop
 |.exit b,a=>match Nat.beq b id with
  |true=>A .normal a
  |false=>A (.exit b) a
 |e,a=>A e a
def J.block {id:Nat} {g:Code} (j:J E C g st (Dy id A)):J E C (.block id g) st A:=λh n k m=>by
 refine wp_block (wp_mono (j h n k m) ?_);rintro i o p ⟨f,a,b,c⟩;cases i with
 |exit e=>
  simp only[Exit.inBlock];simp only[Dy] at a;by_cases d:e=id
  ·subst d;rw[p7] at a;rw[aj rfl];exact⟨f,a,b,c⟩
  have:Nat.beq e id=false:=by
   cases l:Nat.beq e id
   ·rfl
   exact absurd (ep l) d
  rw[this] at a;rw[ag d];exact⟨f,a,b,c⟩
 |_=>exact⟨f,a,b,c⟩
def hN {a c:Type} (b:a->Option (a⊕c)):Nat->a->Option c
 |0,_=>none
 |n+1,e=>match b e with
  |none=>none
  |some (.inl f)=>hN b n f
  |some (.inr d)=>some d
open Classical in
def loop {σ ρ:Type} (a:σ->Option (σ⊕ρ)) (d:σ):Option ρ:=
 if h:∃c,∃b,hN a b d=some c then some h.choose else none
def E9 {e g:Type} {f:e->Option (e⊕g)}:∀{n b:Nat} {d:e} {c:g},n<=b->hN f n d=some c->hN f b d=some c
 |0,_,_,_,_,a=>by cases a
 |n+1,0,_,_,a,_=>by omega
 |n+1,b+1,d,c,h,a=>by
  simp only[hN] at a|-;split at a
  ·cases a
  ·exact E9 U a
  exact a
def uW {j:Type} {e:z->Option (z⊕j)} {g:z} {b:j}:loop e g=some b↔∃a,hN e a g=some b:=by
 unfold loop;constructor
 ·intro f;split at f
  ·rename_i c;obtain⟨a,d⟩:=c.choose_spec;exact⟨a,by rw[d];exact f⟩
  cases f
 rintro⟨a,d⟩;have c:∃b,∃a,hN e a g=some b:=⟨b,a,d⟩;rw[dif_pos c];obtain⟨i,l⟩:=c.choose_spec;have k:=E9 (Nat.le_max_left a i) d;have h:=E9 (Nat.le_max_right a i) l;rw[k] at h;exact h.symm
def BO {j:Type} (d:z->Option (z⊕j)) (e:z):loop d e=match d e with
 |none=>none
 |some (.inl g)=>loop d g
 |some (.inr f)=>some f:=by
 apply Option.ext;intro f;rw[uW];cases c:d e with
 |none=>
  simp only[reduceCtorEq,iff_false];rintro⟨b,a⟩;cases b with
  |zero=>cases a
  |succ b=>simp only[hN,c] at a;cases a
 |some i=>
  cases i with
  |inl g=>
   simp only;rw[uW];constructor
   ·rintro⟨b,a⟩;cases b with
    |zero=>cases a
    |succ b=>simp only[hN,c] at a;exact⟨b,a⟩
   rintro⟨b,a⟩;exact⟨b+1,by simp only[hN,c];exact a⟩
  |inr k=>
   simp only;constructor
   ·rintro⟨b,a⟩;cases b with
    |zero=>cases a
    |succ b=>simp only[hN,c] at a;exact a
   intro h;exact⟨1,by simp only[hN,c];exact h⟩
def J.loop {σ ρ L:Type} {c:Code} (jh:σ->aO) {z:σ->Option (σ⊕ρ)} {s:σ} {w:ρ->Option L} {K:L} (O:(loop z s).bind w=some K) (T:m0 (jh s).g st) (U:m1 (jh s).h st) (V:kE (jh s).g (jh s).h=true) (S:∀e l,z e=some l->(match l with|.inl _=>True|.inr I=>w I=some K)->J E C c (jh e) (λd t=>match l with
  |.inl m=>d=.normal/\m0 (jh m).g t/\m1 (jh m).h t/\kE (jh m).g (jh m).h=true
  |.inr _=>(d=.normal->False)/\A d t)):J E C (.loop c) st A:=by
 obtain⟨I,Z,W⟩:=bZ.1 O;obtain⟨r,a⟩:=uW.1 Z;have am:∀(r:Nat) (e:σ) (f:Act) (n:World),hN z r e=some I->e3 C (jh e) f.tmps n->f.defers=[]->∀(j:Frame) (w:List Item) (k:List Frame),
  ∃d v D,(∃t,A d t/\e3 C t v.tmps D/\v.defers=[])/\Arrives E.P (lone (j.at f (.code c::.inLoop c::w)) k n) j w k d v D:=by
  intro r
  induction r with
  |zero=>intro e f n a;cases a
  |succ r ad=>
   intro e f n a F G j B k;simp only[hN] at a;cases H:z e with
   |none=>rw[H] at a;cases a
   |some l=>
    rw[H] at a;have R:=S e l H (by
     cases l with
     |inl m=>trivial
     |inr av=>simp only at a;cases a;exact W)
    obtain⟨d,o,u,⟨y,b,q,p⟩,i⟩:=R f n F G j (.inLoop c::B) k;cases l with
    |inl m=>
     simp only at a b;obtain⟨rfl,aw,an,ap⟩:=b;obtain⟨N,M,a0,Y,Q⟩:=ad m o u a (q.we aw an ap) p j B k;exact⟨N,M,a0,Y,.of_steps (Steps.trans i (.one step_inLoop)) Q⟩
    |inr av=>
     obtain⟨X,b⟩:=b;cases d with
     |normal=>exact(X rfl).elim
     |exit id=>exact⟨_,o,u,⟨y,b,q,p⟩,.pass (x:=.inLoop c) rfl (λ_ _=>.inl ab) i⟩
     |goto a4=>exact⟨_,o,u,⟨y,b,q,p⟩,.pass (x:=.inLoop c) rfl (λ_ _=>.inl ab) i⟩
     |ret=>exact⟨_,o,u,⟨y,b,q,p⟩,.pass (x:=.inLoop c) rfl (λ_ _=>.inl ab) i⟩
     |panic a3=>exact⟨_,o,u,⟨y,b,q,p⟩,.pass (x:=.inLoop c) rfl (λ_ _=>.inl ab) i⟩
     |outgrown=>exact⟨_,o,u,⟨y,b,q,p⟩,.pass (x:=.inLoop c) rfl (λ_ _=>.inl ab) i⟩
 refine J.Zg T U V (λf n F G j B k=>?_);obtain⟨d,v,D,b,i⟩:=am r s f n a F G j B k;exact⟨d,v,D,b,.of_steps (.one step_loop) i⟩
end
end
def qV:c5->c5->Bool
 |.bB,_=>true
 |.dd,.dd=>true
 |.dd,.bB=>false
def uO:c5->Bool
 |.dd=>true
 |.bB=>false
def c7:ai->ai->Bool
 |.int i,.int j=>if i=j then true else false
 |.bool,.bool|.str,.str|.nil,.nil=>true
 |.a5 c a,.a5 d b=>qV c d&&c7 a b
 |.osl a,.a5 c b=>uO c&&c7 a b
 |.ptr c a,.ptr d b=>qV c d&&c7 a b
 |.st a,.st b=>c7 a b
 |.pr e f,.pr g h=>c7 e g&&c7 f h
 |.mp a,.dB c b=>uO c&&c7 a b
 |.dB c a,.dB d b=>qV c d&&c7 a b
 |_,_=>false
def qV.ok (e:∀c,k c->D c) {b:c5} (d:qV P b=true) (a:ba W k P c):ba W D b c:=by
 cases P<;>cases b
 ·exact a
 ·exact .inl a
 ·cases d
 exact a.imp id (e c)
def uO.ok (a:uO P=true):P=.dd:=by cases P;cases a;rfl
def c7.den:∀{d υ:ai},c7 d υ=true->d.den=υ.den:=by
 intro d
 induction d with
 |a5 f c b=>
  intro υ a;cases υ<;>simp only[c7] at a<;>try (cases a;done)
  simp only[bc] at a;exact congrArg List (b a.2)
 |ptr f c b=>
  intro υ a;cases υ<;>simp only[c7] at a<;>try (cases a;done)
  simp only[bc] at a;exact congrArg Option (b a.2)
 |osl c b=>
  intro υ a;cases υ<;>simp only[c7] at a<;>try (cases a;done)
  simp only[bc] at a;exact congrArg List (b a.2)
 |st c b=>
  intro υ a;cases υ with
  |st k=>exact b (υ:=k) (by simpa only[c7] using a)
  |_=>simp only[c7] at a;cases a
 |pr g h i j=>
  intro υ a;cases υ<;>simp only[c7] at a<;>try (cases a;done)
  simp only[bc] at a;show(g.den×h.den)=_;rw[i a.1,j a.2]
 |int l=>intro υ a;cases υ<;>simp only[c7] at a<;>first|rfl|cases a
 |bool=>intro υ a;cases υ<;>simp only[c7] at a<;>first|rfl|cases a
 |str=>intro υ a;cases υ<;>simp only[c7] at a<;>first|rfl|cases a
 |nil=>intro υ a;cases υ<;>simp only[c7] at a<;>first|rfl|cases a
 |optr c _=>intro υ a;cases υ<;>simp only[c7] at a<;>cases a
 |c6=>intro υ a;cases υ<;>simp only[c7] at a<;>cases a
 |mp c b=>
  intro υ a;cases υ<;>simp only[c7] at a<;>try (cases a;done)
  simp only[bc] at a;exact congrArg (λe=>Option (List (Int×e)×Nat)) (b a.2)
 |dB f c b=>
  intro υ a;cases υ<;>simp only[c7] at a<;>try (cases a;done)
  simp only[bc] at a;exact congrArg (λe=>Option (List (Int×e)×Nat)) (b a.2)
def c7.size:∀{c b:ai},c7 c b=true->c.size=b.size:=by
 intro c
 induction c with
 |st i d=>intro b a;cases b<;>simp only[c7] at a<;>first|(simp only[ai.size];exact d a)|cases a
 |pr g h e f=>
  intro b a;cases b<;>simp only[c7] at a<;>try (cases a;done)
  simp only[bc] at a;simp only[ai.size];rw[e a.1,f a.2]
 |_=>intro b a;cases b<;>simp only[c7] at a<;>first|rfl|cases a
def JC (l:z=E) {e:Option (List (Int×z)×Nat)} {i:Option (List (Int×E)×Nat)} (m:HEq e i):(e=none/\i=none)\/∃j c k,e=some (j,c)/\i=some (k,c)/\∀b:List (Int×Nat×z),iK b j c->∃f:List (Int×Nat×E),iK f k c/\f.length=b.length/\∀(h:Nat) (d:Int×Nat×E),f[h]?=some d->∃a:Int×Nat×z,b[h]?=some a/\a.1=d.1/\a.2.1=d.2.1/\HEq a.2.2 d.2.2:=by
 subst l;cases m;cases e with
 |none=>exact .inl ⟨rfl,rfl⟩
 |some g=>exact .inr ⟨g.1,g.2,g.1,rfl,rfl,λb n=>⟨b,n,rfl,λh a o=>⟨a,o,rfl,rfl,HEq.rfl⟩⟩⟩
def c7.bG {a b:ai} (d:c7 a b=true) (c:ac1):bG b c=ia.bG a c:=by cases a<;>cases b<;>simp only[c7] at d<;>first|rfl|cases d
def JB (f:E=z) {c:List E} {d:List z} (g:HEq c d):d.length=c.length/\∀(b:Nat) (a:z),d[b]?=some a->∃e,c[b]?=some e/\HEq e a:=by subst f;cases g;exact⟨rfl,λb a h=>⟨a,h,HEq.rfl⟩⟩
def RL (e:z=E) {b:Option z} {c:Option E} (f:HEq b c):(b=none/\c=none)\/∃a d,b=some a/\c=some d/\HEq a d:=by
 subst e;cases f;cases b with
 |none=>exact .inl ⟨rfl,rfl⟩
 |some a=>exact .inr ⟨a,a,rfl,rfl,HEq.rfl⟩
def RM {c d:Type} (e:z=c) (f:E=d) {a:z×E} {b:c×d} (g:HEq a b):HEq a.1 b.1/\HEq a.2 b.2:=by subst e;subst f;cases g;exact⟨HEq.rfl,HEq.rfl⟩
def aP.dd (L:∀c,D c->k c):∀{B υ:ai} {f:ac1} {x:B.den} {y:υ.den} {g:ac7},c7 B υ=true->HEq x y->aP (ba W D) e B f x g->(∀c∈g,k c)->aP (ba W k) e υ f y []:=by
 intro B
 induction B with
 |int d4=>
  intro υ f x y g a d b _;cases υ<;>simp only[c7] at a<;>try (cases a;done)
  split at a
  ·rename_i ap;subst ap;cases d;exact⟨rfl,b.2⟩
  cases a
 |bool=>intro υ f x y g a d b _;cases υ<;>simp only[c7] at a<;>first|(cases a;done)|(cases d;exact⟨rfl,b.2⟩)
 |str=>intro υ f x y g a d b _;cases υ<;>simp only[c7] at a<;>first|(cases a;done)|(cases d;exact⟨rfl,b.2⟩)
 |nil=>intro υ f x y g a d b _;cases υ<;>simp only[c7] at a<;>first|(cases a;done)|(cases d;exact⟨rfl,b.2⟩)
 |optr w _=>intro υ f x y g a;cases υ<;>simp only[c7] at a<;>cases a
 |c6=>intro υ f x y g a;cases υ<;>simp only[c7] at a<;>cases a
 |mp w m=>
  intro υ f x y g a d b i;cases υ<;>simp only[c7] at a<;>try (cases a;done)
  simp only[bc] at a;obtain rfl:=uO.ok a.1;rcases JC (c7.den a.2) d with⟨rfl,rfl⟩|⟨co,C,cs,rfl,rfl,l⟩
  ·exact⟨rfl,b.2⟩
  obtain⟨c,I,F,aw,u,M,v,A,S⟩:=b;obtain⟨G,N,j,l⟩:=l F M;refine⟨c,I,G,aw,rfl,N,.inr (i c (by rw[u];simp)),v,by rw[j];exact A,λh R O=>?_⟩;obtain⟨Q,n,p,J,K⟩:=l h R O;obtain⟨o,q,r,s⟩:=S h Q n;exact⟨o,by rw[<-c7.size a.2];exact q,by rw[r,c7.bG a.2,p,J],m a.2 K s ab⟩
 |dB Z w m=>
  intro υ f x y g a d b i;cases υ<;>simp only[c7] at a<;>try (cases a;done)
  simp only[bc] at a;rcases JC (c7.den a.2) d with⟨rfl,rfl⟩|⟨co,C,cs,rfl,rfl,l⟩
  ·exact⟨rfl,b.2⟩
  obtain⟨c,I,F,aw,u,M,z,v,A,S⟩:=b;obtain⟨G,N,j,l⟩:=l F M;refine⟨c,I,G,aw,rfl,N,qV.ok L a.1 z,v,by rw[j];exact A,λh R O=>?_⟩;obtain⟨Q,n,p,J,K⟩:=l h R O;obtain⟨o,q,r,s⟩:=S h Q n;exact⟨o,by rw[<-c7.size a.2];exact q,by rw[r,c7.bG a.2,p,J],m a.2 K s ab⟩
 |st w m=>
  intro υ f x y g a d b i;cases υ with
  |st E=>exact m (υ:=E) (x:=x) (y:=y) (by simpa only[c7] using a) d b i
  |_=>simp only[c7] at a;cases a
 |pr am c ce ci=>
  intro υ f x y g a d b i;cases υ<;>simp only[c7] at a<;>try (cases a;done)
  rename_i C d1;simp only[bc] at a;obtain⟨d2,f2,rfl,n,p⟩:=b;obtain⟨al,av⟩:=RM (c7.den a.1) (c7.den a.2) d;have Y:=c7.size a.1;exact⟨[],[],rfl,by rw[<-Y];exact ce a.1 al n (λc z=>i c (by simp[z])),by rw[<-Y];exact ci a.2 av p (λc z=>i c (by simp[z]))⟩
 |a5 Z w m=>
  intro υ f x y g a d b i;obtain⟨rfl,X,H,rfl,aw,u,v⟩:=b;cases υ<;>simp only[c7] at a<;>try (cases a;done)
  rename_i ad E;simp only[bc] at a;obtain⟨j,l⟩:=JB (c7.den a.2) d;refine⟨rfl,X,H,by rw[j],by rw[j];exact aw,u,?_⟩;rcases v with rfl|⟨c,t,rfl,a3,bs⟩
  ·left;exact lm (by rw[j];rfl)
  right;refine⟨c,t,rfl,qV.ok L a.1 a3,λh T P=>?_⟩;obtain⟨V,n,p⟩:=l h T P;obtain⟨o,q,r,s⟩:=bs h V n;rw[<-c7.size a.2];exact⟨o,q,r,m a.2 p s ab⟩
 |osl w m=>
  intro υ f x y g a d b i;cases υ<;>simp only[c7] at a<;>try (cases a;done)
  rename_i ad E;simp only[bc] at a;obtain rfl:=uO.ok a.1;obtain⟨X,H,rfl,b⟩:=b;obtain⟨j,l⟩:=JB (c7.den a.2) d;rcases b with⟨rfl,rfl,rfl,rfl⟩|⟨c,t,a0,rfl,rfl,aw,u,v,A⟩
  ·obtain rfl:y=[]:=lm (by rw[j];rfl);exact⟨rfl,none,0,rfl,a6 _,λ_=>rfl,.inl rfl⟩
  refine⟨rfl,some ⟨c,t,none⟩,H,by rw[j],by rw[j];exact u,(λa=>by cases a),.inr ⟨c,t,rfl,.inr (i c ab),λh T P=>?_⟩⟩;obtain⟨V,n,p⟩:=l h T P;have d3:h<x.length:=(ec.1 n).1;obtain⟨o,q,r,s⟩:=A h V (a0[h]'(by omega)) n ab
  rw[<-c7.size a.2];exact⟨o,q,r,m a.2 p s (λC bl=>i C (e1 _ (it.2 ⟨_,bD U,bl⟩)))⟩
 |ptr Z w m=>
  intro υ f x y g a d b i;obtain⟨rfl,b⟩:=b;cases υ<;>simp only[c7] at a<;>try (cases a;done)
  rename_i ad E;simp only[bc] at a;refine⟨rfl,?_⟩;rcases RL (c7.den a.2) d with⟨rfl,rfl⟩|⟨am,c,rfl,rfl,a4⟩
  ·exact b
  obtain⟨an,t,o,cv,dl,ds,aK,d0⟩:=b;exact⟨an,t,o,cv,qV.ok L a.1 dl,by rw[<-c7.size a.2];exact ds,aK,m a.2 a4 d0 ab⟩
inductive l8:(τ:ai)->τ.den->(υ:ai)->υ.den->Prop
 |same {τ υ:ai} {x:τ.den} {y:υ.den} (h:c7 τ υ=true) (RK:HEq x y):l8 τ x υ y
 |ptr {t u:ai} {x:t.den} {y:u.den} (h:c7 t u=true) (RK:HEq x y):l8 (.optr t) x (.ptr .dd u) (some y)
def l8.rep {B:Nat->Prop} (h:∀a,B a->k a) {j:d.den} {l:q.den} (b:l8 d j q l) (i:aP (ba D B) e d g j m) (f:∀a∈m,k a):aP (ba D k) e q g l []:=by
 cases b with
 |same b c=>exact i.dd h b c f
 |ptr b c=>
  obtain⟨a,r,u,o,rfl,rfl,aw,s,v,t⟩:=i;exact⟨rfl,a,r,o,rfl,.inr (f a ab),by rw[<-c7.size b];exact aw,s,t.dd h b c (λn p=>f n (by simp[p]))⟩
def l8.st {c:d.den} {e:q.den} (a:l8 d c q e) (b:ac1):bG d b=bG q b:=by
 cases a with
 |same a _=>cases d<;>cases q<;>first|rfl|(simp only[c7] at a;cases a;done)
 |ptr a _=>rfl
end Go.ia
end
