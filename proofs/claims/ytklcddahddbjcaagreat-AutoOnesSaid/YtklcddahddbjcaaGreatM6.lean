/- Points that are held, plainly: they are points; what a T -/
import Derived.Test.YtklcddahddbjcaaGreatM5
import Derived.Test.YtklcddahddbjcaaGreatM3
import Derived.Test.YtklcddahddbjcaaGreatRows
import Derived.Test.YtklcddahddbjcaaGreatM4
import Derived.WalkKit
import Derived.ProofKit
import Derived.OpenShut
import Derived.ShutString
import Derived.ChangeOld
import Derived.Below
set_option maxRecDepth 100000
set_option linter.unusedVariables false
set_option linter.unusedSimpArgs false
set_option maxHeartbeats 16000000
namespace Go.Proofs
namespace YtklcddahddbjcaaGreat
open Go Go.Vc
theorem aav{c:aL}{ls:List bk}{b:aA}(h:Inv c ls b)(e:Int):((kS b e).1=0/\(kS b e).2=0)\/∃o x u,k6 c ls o=some x/\u∈x.2.2.1++x.2.2.2/\u.1=e:=by cases hf:b.2.2.2.1.find? (holds b e)with|none=>grind[List.filter_eq_nil_iff,kS,gJ]|some x=>right;have h1:=List.find?_some hf;unfold holds at h1;obtain⟨u,hu⟩:=Option.isSome_iff_exists.1 h1;rw[h.book.mC]at hu;obtain⟨y,hy,hu⟩:=Option.bind_eq_some_iff.1 hu;have:=List.find?_some hu;exact⟨x.1,y,u,hy,List.mem_of_find?_eq_some hu,by grind⟩
theorem P5{p:ab}{r:ah}(hr:Bj p r){b:aA}(hb:b.1=(p.1.length:Int)):nC b r=true:=by
 have QV:=td r;unfold nC;simp only[af];refine⟨?_,gE.2 fun i hi=>?_,List.all_eq_true.2 fun e he=>?_,gE.2 fun i hi=>?_⟩;rw[ba (by have:=hr.len;omega)];rfl;have Xm:i<(c4 r).length:=by omega
 have h1:=hr.steps _ (jq ((0:Int),(0:Int),(0:Int)) hi);have h1:0<=(iO r.2.2.2.1 i).1/\(iO r.2.2.2.1 i).1<(p.1.length:Int):=h1;unfold p9 HE;rw[cO h1.1,cO (by omega),dE,dE,dO];refine fw.2 fun j hj=>beq_false_of_ne fun e=>?_;rw[J4,J4,ph 0 Xm,ph 0 (show j<(c4 r).length by omega)]at e;have:=(List.getElem_inj hr.once).1 e;omega;have h1:=hr.nE e he;grind[rn,HE];have Xm:i<(aV r).length:=by grind[aV]
 have hm:=jq ((0:Int),(0:Int)) Xm;have h1:=hr.sQ.each _ hm;have h1:((eW r i).2=1\/(eW r i).2=2)/\0<=(eW r i).1/\(eW r i).1<(p.1.length:Int):=h1;unfold mg HE;rw[cO h1.2.1,cO (by omega),dE,dE];have h2:((eW r i).2==1||(eW r i).2==2)=true:=by grind
 rw[h2,dE,dO];refine fw.2 fun j hj=>?_;have hmj:=jq ((0:Int),(0:Int)) (show j<(aV r).length by omega);unfold ud;cases h3:((eW r j).1==(eW r i).1)with|false=>rfl|true=>have:=hr.sQ.one _ hmj _ hm (eq_of_beq h3);grind[eW]
def tm(o:List Bool):Prop:=∀k:Nat,o.getD k false=false
theorem B8{o:List Bool}(h:tm o)(e:Int):tX o e=false:=by unfold tX;rw[h,Bool.and_false,Bool.and_false]
theorem CZ{p:ab}{inn:fu}(h:tm inn.1):tm (eS p inn).1:=fun k=>by unfold eS;show(od p inn.1 inn.1.length).getD k false=false;unfold od;rw[bU,List.drop_of_length_le (aR _),List.append_nil,List.getElem?_map];by_cases hk:k<inn.1.length;rw[List.getElem?_range hk];show zM p inn.1 k=false;unfold zM;rw[h];rfl;grind
def tS(c:aL)(ls:List bk):Prop:=∀i:Nat,i<c.2.length->(ls.getD i gu).1=0
theorem TQ{c:aL}{ls:List bk}(h:tS c ls):k6 c ls=fun _=>none:=by funext o;unfold k6 yU;split;rename_i ho;rw[h o.toNat (by omega)];rfl;rfl
theorem We{c:aL}(hc:lu c){ls:List bk}{b:aA}(h:Inv c ls b)(hi:tS c ls){inn:fu}(ho:tm inn.1){k:Int}(hk:0<=k/\k<(c.2.length:Int))(hb:(ax c k).2.2.2.2.2.2.2.2=false)(t:eM):abU c ls b t inn k/\mN t (ax c k) inn.1 b=0:=by
 have hr:=hc.qS _ (jO hk);have hE:=TQ hi;have JC:=h.book;rw[hE]at JC;have qY:∀e,iA b e=-1:=fun e=>JC.acO fun o x hx=>by cases hx
 have hz:∀e,qu b e=[]:=fun e=>List.eq_nil_iff_forall_not_mem.2 fun z hz=>by obtain⟨x,hx,_⟩:=(JC.Yw e z).1 hz;cases hx
 have apP:∀e,(kS b e).1=0:=fun e=>by grind[aav]
 have hte:∀e,kR c.1 inn.1 e=false:=fun e=>by grind[kR,B8]
 have aai:mN t (ax c k) inn.1 b=0:=by unfold mN;(have:(eD (bZ t.1) (ax c k)).any (p8 t inn.1 b (xI (bZ t.1) (ax c k).1))=false:=ef.2 fun w _=>by(have hq:yw (bZ t.1) w.1 inn.1 b (xI (bZ t.1) (ax c k).1)=true:=by grind[yw,fw,DA,B8]);grind[p8]);grind
 refine⟨⟨hk,hb,fw.2 fun i DQ=>?_,ef.2 fun s _=>?_,ef.2 fun e _=>?_,LN.2 ⟨hk.1,?_,P5 hr h.size,ef.2 fun s _=>?_,ef.2 fun e _=>?_,ef.2 fun u _=>?_⟩,ef.2 fun u _=>?_,aai⟩,aai⟩;unfold tT CK;rw[ai,hi i DQ];simp;unfold rr;grind;grind;rw[JC.has];rfl;grind[k9];grind;unfold lA;grind;unfold nh;grind
theorem Wf{c:aL}{ls:List bk}{b:aA}{t:eM}{inn:fu}{k:Int}(hk:0<=k/\k<(c.2.length:Int))(hb:(ax c k).2.2.2.2.2.2.2.2=true):w3 c ls b t inn k=11:=by unfold w3;(have:pB c k=true:=by grind[pB]);rw[this,cond_true];grind[xS]
def AZ(c:aL)(inn:fu)(gone:List (Int×Bool))(l:bk)(i:Nat):bk:=if l.1=0 then l else(dF l (oM (ax c (i:Int)) inn (i:Int) gone)).1
theorem zu{c:aL}{inn:fu}{gone:List (Int×Bool)}{s:wK}(hl:s.1.length=c.2.length):∀k,k<=c.2.length->(gw c inn gone s k).1.length=c.2.length/\∀i:Nat,(gw c inn gone s k).1.getD i gu=if i<k then AZ c inn gone (s.1.getD i gu) i else s.1.getD i gu|0,_=>⟨hl,fun i=>by rfl⟩|k+1,hk=>by obtain⟨h1,h2⟩:=zu (inn:=inn) (gone:=gone) hl k (by omega);have Ab:=h2 k;rw[if_neg (by omega)]at Ab;show(nJ c inn gone (gw c inn gone s k) k).1.length=_/\∀i:Nat,(nJ c inn gone (gw c inn gone s k) k).1.getD i gu=_;unfold nJ;split;rename_i h0;refine⟨h1,fun i=>?_⟩;rw[h2 i];by_cases e:i=k;subst e;rw[if_neg (by omega),if_pos (by omega)];unfold AZ;grind;grind;rename_i h0;refine⟨by grind,fun i=>?_⟩;show(List.set _ _ _).getD i gu=_;rw[yu (by omega)];by_cases e:i=k;subst e;rw[if_pos rfl,if_pos (by omega)];unfold AZ;grind;grind
theorem ZD(l:List Bool)(k:Nat)(h:∀i:Nat,l.getD i false=false)(i:Nat):(l.set k false).getD i false=false:=by rw[bU,List.getElem?_set];split;grind;simp_all
theorem JW{v:jU}(h:∀i:Nat,v.1.getD i false=false)(i:Nat):(lV v).getD i false=false:=by grind[lV,ZD]
theorem Np{n:Nat}{l:bk}(hl:DC n l)(h1:l.1=1\/l.1=2){v:jU}(hv:v.1.length=n)(alr:∀i:Nat,v.1.getD i false=false)(LX:l.2.2.1=false):(v.2.2.2.2.2.2=true->sX (lV v) v=true->(dF l v).1=gu)/\(v.2.2.2.2.2.2=false->v.2.2.1=true->v.2.2.2.1=true->(dF l v).1.1=2/\(dF l v).1.2.2.1=false):=by rcases hl with rfl|⟨⟨s1,s2⟩,⟨f1,f2⟩,hs,hu⟩;rcases h1 with h|h<;>cases h;(have hb:¬sa l v:=by grind[sa]);have hf:l.2.1=((0:Nat):Int):=hu (by omega);rw[FM (by omega) hb hf,LX,Bool.false_or];have ho:=JW alr;unfold we;rw[if_pos ⟨by omega,ho 0⟩,List.drop_zero];refine⟨fun hc hov=>?_,fun hc hr hf=>?_⟩;all_goals grind
theorem Fc{α:Type}(n:Nat)(d:α):rowOf n d []=List.replicate n d:=by grind[rowOf]
theorem uk(p:ab)(pos:List Int):tm (ml p [] pos).1:=fun k=>by show(rowOf p.1.length false []).getD k false=false;grind[Fc]
theorem PN(p:ab)(occ:List Bool)(pos:List Int):qa p (ml p occ pos)=true:=by grind[qa,ml,SO]
theorem Cy(c:aL):tS c (List.replicate c.2.length gu):=fun i hi=>by rw[bU,List.getElem?_replicate,if_pos hi];rfl
theorem Gu{c:aL}{inn:fu}{gone:List (Int×Bool)}{s:wK}(hi:tS c s.1):∀k,k<=c.2.length->gw c inn gone s k=s|0,_=>rfl|k+1,hk=>by have ih:=Gu (inn:=inn) (gone:=gone) hi k (by omega);show nJ c inn gone (gw c inn gone s k) k=s;rw[ih];unfold nJ;rw[if_pos (hi k (by omega))]
theorem Wx{W:fc}{inn:fu}(hs:qa W.1.1 inn=true)(a:Int)(aw:List Int):(gM W inn [a] aw).2.1.2.2=(kj W.1 (eS W.1.1 inn) ((gw W.1 (eS W.1.1 inn) (fg aw aw.length) (W.2.1,W.2.2.1) W.2.1.length).1,(gw W.1 (eS W.1.1 inn) (fg aw aw.length) (W.2.1,W.2.2.1) W.2.1.length).2,W.2.2.2.1,[]) a).2.2.2/\(gM W inn [a] aw).1.2.1=(kj W.1 (eS W.1.1 inn) ((gw W.1 (eS W.1.1 inn) (fg aw aw.length) (W.2.1,W.2.2.1) W.2.1.length).1,(gw W.1 (eS W.1.1 inn) (fg aw aw.length) (W.2.1,W.2.2.1) W.2.1.length).2,W.2.2.2.1,[]) a).1:=by unfold gM;rw[if_pos hs];exact⟨rfl,rfl⟩
theorem Sz{W:fc}(h:k8 W){inn:fu}(hs:qa W.1.1 inn=true)(hv:tm inn.1){a:Int}(ha:0<=a/\a<(W.1.2.length:Int))(aw:List Int)(hi:tS W.1 (gw W.1 (eS W.1.1 inn) (fg aw aw.length) (W.2.1,W.2.2.1) W.2.1.length).1):((ax W.1 a).2.2.2.2.2.2.2.2=true->(gM W inn [a] aw).2.1.2.2=[11])/\((ax W.1 a).2.2.2.2.2.2.2.2=false->(gM W inn [a] aw).2.1.2.2=[0]/\(gM W inn [a] aw).1.2.1=(gw W.1 (eS W.1.1 inn) (fg aw aw.length) (W.2.1,W.2.2.1) W.2.1.length).1.set a.toNat (m9 ((ax W.1 a).2.2.2.1.length:Int))):=by obtain⟨e1,e2⟩:=Wx hs a aw;have hI:=Inv.roads (inn:=eS W.1.1 inn) (gone:=fg aw aw.length) (s:=(W.2.1,W.2.2.1)) h.inv W.2.1.length (by rw[h.inv.len];simp);rw[e1,e2];unfold kj;constructor;intro hb;have:=Wf (c:=W.1) (ls:=(gw W.1 (eS W.1.1 inn) (fg aw aw.length) (W.2.1,W.2.2.1) W.2.1.length).1) (b:=(gw W.1 (eS W.1.1 inn) (fg aw aw.length) (W.2.1,W.2.2.1) W.2.1.length).2) (t:=W.2.2.2.1) (inn:=eS W.1.1 inn) ha hb;rw[this,if_neg (by decide)];rfl;intro hb;have hw:=We h.Af hI hi (inn:=eS W.1.1 inn) (CZ hv) ha hb W.2.2.2.1;rw[if_pos (ES.2 hw.1)];refine⟨?_,rfl⟩;show[]++[mN W.2.2.2.1 (ax W.1 a) (eS W.1.1 inn).1 _]=[0];grind
structure Po (W:fc) (i:Nat):Prop where
 inv:k8 W
 GU:i<W.1.2.length
 idle:∀j:Nat,j<W.1.2.length->j≠i->(W.2.1.getD j gu).1=0
 up:(W.2.1.getD i gu).1=1\/(W.2.1.getD i gu).1=2
 off:(W.2.1.getD i gu).2.2.1=false
theorem YD{o:List Bool}(h:tm o)(l:List c8)(k:Nat):(l.map (Cp o)).getD k false=false:=by rw[bU,List.getElem?_map];cases l[k]?with|none=>rfl|some s=>exact h _
theorem WI(n k:Nat):(List.replicate n false).getD k false=false:=by grind
theorem zi(r:ah)(inn:fu)(i:Int)(gone:List (Int×Bool)):oM r inn i gone=(r.2.2.2.1.map (Cp inn.1),r.2.2.1==2,(aV r).all (liesAt inn.2.1),r.2.2.2.1.all (Gh inn.1)&&r.2.2.2.2.2.2.1.all (Lg inn.1),inn.2.2.1.getD r.1.toNat false,inn.2.2.2.getD r.1.toNat false,JF gone i):=by grind[oM]
theorem WM{o:List Bool}(h:∀k:Nat,o.getD k false=false){v:jU}(hl:v.2.2.2.2.1=false):sX o v=true:=by unfold sX;rw[hl,Bool.not_false,Bool.true_or,Bool.and_true,dO];refine ef.2 fun x hx=>?_;obtain⟨k,hk,rfl⟩:=List.mem_iff_getElem.1 hx;have:=h k;rw[bU,bR hk]at this;have:o[k]=false:=this;rw[this];decide
theorem Xt(a:Int):JF (fg [a] [a].length) a=true:=by show(bG I (dH I [] a true) a).getD false=true;rw[Tx m6];rfl
theorem Gj(p:ab)(pos:List Int):tm (eS p (ml p [] pos)).1/\(eS p (ml p [] pos)).2=(rowOf p.1.length 0 pos,List.replicate p.2.2.1.length false,List.replicate p.2.2.1.length false):=⟨CZ (uk p pos),(Li _ _).2⟩
theorem SB(p:ab)(pos:List Int)(r:ah)(i:Int)(gone:List (Int×Bool)):(oM r (eS p (ml p [] pos)) i gone).2.2.2.2.1=false:=by grind[zi,Gj,WI]
theorem Lj(p:ab)(pos:List Int)(r:ah)(i:Int)(gone:List (Int×Bool))(k:Nat):(oM r (eS p (ml p [] pos)) i gone).1.getD k false=false:=by grind[zi,YD,Gj]
theorem aid{W:fc}{i:Nat}(h:Po W i)(pos:List Int):tS W.1 (gw W.1 (eS W.1.1 (ml W.1.1 [] pos)) (fg [(i:Int)] [(i:Int)].length) (W.2.1,W.2.2.1) W.2.1.length).1:=fun j hj=>by have hl:=h.inv.inv.len;have hr:=(zu (c:=W.1) (inn:=eS W.1.1 (ml W.1.1 [] pos)) (gone:=fg [(i:Int)] [(i:Int)].length) (s:=(W.2.1,W.2.2.1)) hl W.2.1.length (by omega)).2 j;rw[hr,if_pos (by omega)];unfold AZ;by_cases e:j=i;subst e;rw[if_neg (by have:=h.up;grind)];have hs:=Np (h.inv.inv.zU j hj) h.up (v:=oM (ax W.1 (j:Int)) (eS W.1.1 (ml W.1.1 [] pos)) (j:Int) (fg [(j:Int)] [(j:Int)].length)) (EU _ _ _ _) (Lj _ _ _ _ _) h.off;(have hc:(oM (ax W.1 (j:Int)) (eS W.1.1 (ml W.1.1 [] pos)) (j:Int) (fg [(j:Int)] [(j:Int)].length)).2.2.2.2.2.2=true:=by grind[zi,Xt]);have:=hs.1 hc (WM (JW (Lj _ _ _ _ _)) (SB _ _ _ _ _));grind[gu];have:=h.idle j hj e;grind
theorem R2{n:Nat}(h:1<=n/\n<=12):m9 (n:Int)=(1,0,false,List.replicate n false):=by grind[m9]
theorem aaX{W:fc}(h:k8 W){i:Nat}(hi:i<W.1.2.length)(hb:(ax W.1 (i:Int)).2.2.2.2.2.2.2.2=false)(aw:List Int)(pos:List Int)(hd:tS W.1 (gw W.1 (eS W.1.1 (ml W.1.1 [] pos)) (fg aw aw.length) (W.2.1,W.2.2.1) W.2.1.length).1):Po (gM W (ml W.1.1 [] pos) [(i:Int)] aw).1 i/\((gM W (ml W.1.1 [] pos) [(i:Int)] aw).1.2.1.getD i gu).1=1:=by have hl:=h.inv.len;have hr:=(zu (c:=W.1) (inn:=eS W.1.1 (ml W.1.1 [] pos)) (gone:=fg aw aw.length) (s:=(W.2.1,W.2.2.1)) hl W.2.1.length (by omega)).1;have ht:=(Sz h (PN W.1.1 [] pos) (uk W.1.1 pos) (a:=(i:Int)) ⟨by omega,by omega⟩ aw hd).2 hb;have FH:=zj W (ml W.1.1 [] pos) [(i:Int)] aw;have hg:=h.Af.qS _ (jO (c:=W.1) (o:=(i:Int)) ⟨by omega,by omega⟩);(have aaj:∀j:Nat,(gM W (ml W.1.1 [] pos) [(i:Int)] aw).1.2.1.getD j gu=if j=i then(1,0,false,List.replicate (ax W.1 (i:Int)).2.2.2.1.length false)else(gw W.1 (eS W.1.1 (ml W.1.1 [] pos)) (fg aw aw.length) (W.2.1,W.2.2.1) W.2.1.length).1.getD j gu:=fun j=>by rw[ht.2,ai,yu (by omega),R2 hg.len]);have ahp:=aaj i;rw[if_pos rfl]at ahp;refine⟨⟨MY h _ _ _,by grind,fun j hj e=>?_,?_,?_⟩,?_⟩;rw[aaj j,if_neg e];rw[FH]at hj;exact hd j hj;all_goals grind
structure aod (p:ab) (V W:fc) (i:Nat):Prop where
 inv:k8 V
 inw:k8 W
 cv:V.1=cA p
 cw:W.1=cA p
 zU:V.2.1.getD i gu=W.2.1.getD i gu
theorem P9{a:Ty}{β:Type}{k:a.den}{v:β}{x:a.den×β}:∀{m:List (a.den×β)},x∈dH a m k v->x=(k,v)\/x∈m|[],h=>.inl (aF.1 h)|y::m,h=>by unfold dH at h;cases hk:a.lI k y.1 with|true=>grind|false=>rw[hk]at h;rcases bp.1 h with h|h;exact .inr (h▸bT);rcases P9 h with h|h;exact .inl h;exact .inr (bm _ h)
theorem Rp{a:Ty}{β:Type}{k:a.den}{x:a.den×β}:∀{m:List (a.den×β)},x∈jr a m k->x∈m|[],h=>h|y::m,h=>by unfold jr at h;cases hk:a.lI k y.1 with|true=>rw[hk]at h;exact bm _ h|false=>rw[hk]at h;rcases bp.1 h with h|h;exact h▸bT;exact bm _ (Rp h)
theorem Gi{l:List cB}{x:cB×Bool}:∀k,k<=l.length->x∈nF [] l k->x.1∈l|0,_,h=>absurd h b4|k+1,hk,h=>by have h:x∈dH km (jr km (nF [] l k) ((l.getD k zT).1,3-(l.getD k zT).2)) (l.getD k zT) true:=h;rcases P9 h with h|h;rw[h];exact jq zT (by omega);exact Gi k (by omega) (Rp h)
theorem rS{l:List cB}{t:cB}(h:pf (nF [] l l.length) t=true):t∈l:=by unfold pf at h;cases hg:bG km (nF [] l l.length) t with|none=>grind|some v=>exact Gi (x:=(t,v)) l.length (aR _) (gD (a:=km) rfl hg)
structure ar1 (a b:ah):Prop where
 any:a.1=b.1\/(∃e,e∈c4 a/\e∈c4 b)\/(∃e,e∈c4 a/\e∈b.2.2.2.2.2.2.1)\/(∃e,e∈a.2.2.2.2.2.2.1/\e∈c4 b)\/∃x∈aV a,∃y∈aV b,x.1=y.1/\x.2≠y.2
def iN(p:ab)(a b:ah):Prop:=∀t∈Aj p a,∀u∈Aj p b,t.1=u.1->t.2=u.2
structure aiW (c:aL) (i:Nat) (ls:List bk) (b:aA) (t:eM):Prop where
 inv:Inv c ls b
 dL:k6 c ls=ko (fun _=>none) (i:Int) (some (vF (ax c (i:Int))))
 zU:∀j:Nat,(ls.getD j gu).1=if j=i then 1 else 0
 tok:t=(some (mK c.1),nF [] (eD (mK c.1) (ax c (i:Int))) (eD (mK c.1) (ax c (i:Int))).length)
def atR(b:ej)(o:Int):Int:=fV (fun h=>h.1==o) b.2
def adT(l:List oX)(k:Nat):List oX:=l.take k++l.drop (k+1)
@[irreducible]def VF(b:ej)(o:Int):ej:=bif decide (atR b o<0)then b else(b.1,adT b.2 (atR b o).toNat)
def ak4(e:Int)(x:Int):Bool:=!(x==e)
def Ub(b:ej)(o:Int):oX:=b.2.getD (atR b o).toNat zH
def ZQ(h:oX)(e:Int):oX:=(h.1,h.2.1.filter (ak4 e),h.2.2.1,h.2.2.2.1.filter (wX e),h.2.2.2.2)
def agY(h:oX):Bool:=h.2.1.length+h.2.2.1.length+h.2.2.2.2.length==0
def VB(b:ej)(o e:Int):ej:=(b.1,b.2.set (atR b o).toNat (ZQ (Ub b o) e))
def ag0(b:ej)(o e:Int):Bool:=decide (atR b o<0)||!cd (Ub b o).2.1 e
@[irreducible]def adQ(b:ej)(o e:Int):ej:=bif ag0 b o e then b else bif agY (ZQ (Ub b o) e)then VF (VB b o e) o else VB b o e
def ag3(pos:List Int)(n:bw):Bool:=OP pos n.1==n.2
@[irreducible]def aaL(r:ah)(pos:List Int):Bool:=(aV r).all (ag3 pos)
def setAt(c:aL)(ls:List bk)(s:Int)(i:Nat):Bool:=(c.2.getD i zR).1==s&&nA ls (i:Int)==2
def XB(c:aL)(ls:List bk)(s:Int):Option Nat:=dR (setAt c ls s) c.2.length
@[irreducible]def Uk(c:aL)(ls:List bk)(s:Int):Int:=match XB c ls s with|some i=>(i:Int)|none=>-1
def adX(c:aL)(ls:List bk)(k:Int):Bool:=(ax c k).2.2.1==2||((ax c k).2.2.1==1&&decide (0<=Uk c ls (ax c k).2.1))
def anP(c:aL)(ls:List bk)(s:Nat):Int:=bif decide (Uk c ls (s:Int)<0)then 0 else bif adX c ls (Uk c ls (s:Int))then 2 else 1
def ad5(c:aL)(ls:List bk)(k:Nat):List Int:=(List.range k).map (anP c ls)
@[irreducible]def JY(c:aL)(ls:List bk):List Int:=ad5 c ls c.1.2.2.1.length
@[irreducible]def adO(p:ab)(r:ah)(inn:fu)(i:Int)(aw:List Int):jU:=(r.2.2.2.1.map fun s=>w4 p inn.1 s.1,r.2.2.1==2,aaL r inn.2.1,!D2 p r inn.1,tX inn.2.2.1 r.1,tX inn.2.2.2 r.1,cd aw i)
def aaF(r:ah)(i:Int)(b:ej)(pl:Int):ej:=adQ b i (iO r.2.2.2.1 pl.toNat).1
def JN(r:ah)(i:Int)(out:List Int)(b:ej):Nat->ej|0=>b|k+1=>aaF r i (JN r i out b k) (out.getD k 0)
def SH(r:ah)(i:Int)(g:bk×List Int)(b:ej):ej:=bif g.1.1==0 then VF (JN r i g.2 b g.2.length) i else JN r i g.2 b g.2.length
@[irreducible]def gR(W:jV)(i:Int)(inn:fu)(aw:List Int):bk×List Int:=dF (W.2.1.getD i.toNat gu) (adO W.1.1 (ax W.1 i) inn i aw)
@[irreducible]def ah1(W:jV)(i:Int)(inn:fu)(aw:List Int):jV:=(W.1,W.2.1.set i.toNat (gR W i inn aw).1,SH (ax W.1 i) i (gR W i inn aw) W.2.2.1,W.2.2.2)
def YZ(z:List Int):List Int:=Nv z z.length
def ahW(o:Int)(x:fL):oX:=(o,x.1,YZ x.2.1,x.2.2.1,x.2.2.2)
structure Sc (dL:Int->Option fL) (b:ej):Prop where
 ari:(b.2.map fun h=>h.1).Pairwise (· < ·)
 each:∀h∈b.2,∃x,dL h.1=some x/\h=ahW h.1 x
 has:∀o x,dL o=some x->∃h∈b.2,h.1=o
structure abX (W:jV):Prop where
 Af:lu W.1
 len:W.2.1.length=W.1.2.length
 zU:∀i:Nat,i<W.1.2.length->DC (ax W.1 i).2.2.2.1.length (W.2.1.getD i gu)
 size:W.2.2.1.1=(W.1.1.1.length:Int)
 book:Sc (k6 W.1 W.2.1) W.2.2.1
 amv:W.2.2.2.1.length=W.1.1.2.2.2.1.length
def AR(W:jV)(inn:fu)(aw:List Int):Nat->jV|0=>W|k+1=>bif((AR W inn aw k).2.1.getD k gu).1==0 then AR W inn aw k else ah1 (AR W inn aw k) (k:Int) inn aw
abbrev KD:=jV×List Int
def YA(W:jV)(inn:fu)(x:Int):Int:=OO W.1 W.2.1 W.2.2.1 W.2.2.2.1 inn x
def ag4(W:jV)(x:Int):jV:=(W.1,W.2.1.set x.toNat (m9 ((ax W.1 x).2.2.2.1.length:Int)),adP W.2.2.1 x (ax W.1 x),XH W.1.1 W.2.2.2.1 (ax W.1 x),W.2.2.2.2)
def Uz(inn:fu)(s:KD)(x:Int):KD:=(bif YA s.1 inn x==0 then ag4 s.1 x else s.1,s.2++[YA s.1 inn x])
def L9(inn:fu)(l:List Int)(s:KD):Nat->KD|0=>s|k+1=>Uz inn (L9 inn l s k) (l.getD k 0)
def YL(p:ab)(b:ej)(e:Nat):Int:=bif(p.1.getD e zE).2.1==2 then(OS b (e:Int)).1 else 0
def Wy(p:ab)(b:ej)(k:Nat):List Int:=(List.range k).map (YL p b)
def Ik(W:jV)(inn:fu)(calls aw:List Int):KD:=L9 inn calls (AR W inn aw W.2.1.length,[]) calls.length
def Sv(W:jV)(l:List Int):jV:=(W.1,W.2.1,W.2.2.1,W.2.2.2.1,l)
@[irreducible]def VD(W:jV)(inn:fu)(calls aw:List Int):jV×xN×Int:=if qa W.1.1 inn=true then(Sv (Ik W inn calls aw).1 (JY W.1 (Ik W inn calls aw).1.2.1),(JY W.1 (Ik W inn calls aw).1.2.1,Wy W.1.1 (Ik W inn calls aw).1.2.2.1 W.1.1.1.length,(Ik W inn calls aw).2),0)else(W,([],[],[]),1)
structure ar2 (dL:Int->Option fL) (b:aA) (rb:ej):Prop where
 p:dv dL b
 r:Sc dL rb
 D8:B5 dL
 full:Full dL
section
variable {p:ab} {inn:fu}
structure Mid (p:ab) (ls:List bk) (b:aA) (t:eM) (V:jV):Prop where
 inv:Inv (cA p) ls b
 inr:abX V
 ah9:V.1=cA p
 tZ:V.2.1=ls
 tok:t.1=some (mK p)
 keys:(t.2.map Prod.fst).Nodup
 amv:∀l:Nat,l<p.2.2.2.1.length->V.2.2.2.1.getD l 0=yS t.2 (l:Int)
end
section
variable {p:ab} {inn:fu} {ls:List bk} {b:aA} {t:eM} {V:jV}
structure Alike (p:ab) (W:fc) (V:jV):Prop where
 inv:k8 W
 ah9:W.1=cA p
 mid:Mid p W.2.1 W.2.2.1 W.2.2.2.1 V
 shown:V.2.2.2.2=W.2.2.2.2
end
def abk(m:List (cB×Bool)):Prop:=∀x∈m,x.2=true
structure aoe (p:ab) (W:fc) (V:jV):Prop where
 qS:oy p
 same:Alike p W V
 PB:abk W.2.2.2.1.2
def abe(V:jV)(n:Nat):List (Nat×dw):=[(n,.cells (flat jY V.1++[.row LifeT (n+1),.ptr (n+2) 0,.row I (n+3),.row I (n+4)])),(n+2,.cells [.aE I V.2.2.1.1,.row V7 (n+5)]),(n+1,.row false 73 LifeT V.2.1),(n+3,.row false 3 I V.2.2.2.1),(n+4,.row false 3 I V.2.2.2.2),(n+5,.row false 220 V7 V.2.2.1.2)]
def lC(ls:List bk)(i:Int):Bool:=!(nA ls i==0)
def VZ(p:ab)(s:Int):Int:=(p.2.2.1.getD s.toNat zS).2.1.1
def r9(c:aL)(ls:List bk)(s:Int)(i:Nat):Bool:=(c.2.getD i zR).1==s&&lC ls (i:Int)
def Ct(c:aL)(ls:List bk)(s:Int)(i:Nat):Bool:=(c.2.getD i zR).2.2.1==1&&((c.2.getD i zR).2.1==s&&lC ls (i:Int))
def zI(c:aL)(ls:List bk)(occ:List Bool)(s:Int)(k:Nat):Bool:=w4 c.1 occ (VZ c.1 s)||cI (Ct c ls s) k
@[irreducible]def iX(c:aL)(ls:List bk)(occ:List Bool)(s:Int):Bool:=!cI (r9 c ls s) c.2.length&&zI c ls occ s c.2.length
def gL(c:aL)(s:Int)(i:Nat):Bool:=(c.2.getD i zR).1==s&&!(c.2.getD i zR).2.2.2.2.2.2.2.2
def tz(c:aL)(s:Int):List Int:=(dR (gL c s) c.2.length).toList.map fun(i:Nat)=>(i:Int)
def nc(c:aL)(ls:List bk)(occ:List Bool)(s:Nat):List Int:=bif(c.1.2.2.1.getD s zS).2.2&&iX c ls occ (s:Int)then tz c (s:Int)else[]
def je(c:aL)(ls:List bk)(occ:List Bool):Nat->List Int|0=>[]|k+1=>je c ls occ k++nc c ls occ k
@[irreducible]def eJ(c:aL)(ls:List bk)(occ:List Bool):List Int:=je c ls occ c.1.2.2.1.length
def MV:bu where args:=[.list LifeT,I];out:=.data [.bool];pre:=fun(x:List bk×Int×Unit)=>0<=x.2.1;fn:=fun(x:List bk×Int×Unit)=>(lC x.1 x.2.1,())
def X8:bu where args:=[jY,.list LifeT,.list .bool,I];out:=.data [.bool];pre:=fun(x:aL×List bk×List Bool×Int×Unit)=>0<=x.2.2.2.1/\x.2.2.2.1<(x.1.1.2.2.1.length:Int);fn:=fun(x:aL×List bk×List Bool×Int×Unit)=>(iX x.1 x.2.1 x.2.2.1 x.2.2.2.1,())
def c17:bu where args:=[jY,.list LifeT,.list .bool];out:=.row 3 I;pre:=fun(x:aL×List bk×List Bool×Unit)=>x.1.1.2.2.1.length<=1000;fn:=fun(x:aL×List bk×List Bool×Unit)=>(eJ x.1 x.2.1 x.2.2.1,())
def wC:bu where args:=[jY,.list LifeT,.list .bool];out:=.fresh [.list I];pre:=fun(x:aL×List bk×List Bool×Unit)=>x.1.1.2.2.1.length<=1000;fn:=fun(x:aL×List bk×List Bool×Unit)=>(eJ x.1 x.2.1 x.2.2.1,())
def amA:bu where args:=[jY,.list LifeT,.list .bool];out:=.fresh [.list I];pre:=fun(x:aL×List bk×List Bool×Unit)=>x.1.1.2.2.1.length<=1000;fn:=fun(x:aL×List bk×List Bool×Unit)=>(eJ x.1 x.2.1 x.2.2.1,())
def a61(x:aL×List bk×List Bool×Int×Unit):fe:=bz [(4,fun S=>{σ:=Nat,ok:=fun k=>k<=x.1.2.length/\cI (r9 x.1 x.2.1 x.2.2.2.1) k=false,mu:=fun k=>x.1.2.length-k,sl:=fun k=>[(56,.one (.aE I (k:Int))),(10,.one (.aE .bool (zI x.1 x.2.1 x.2.2.1 x.2.2.2.1 k)))],bl:=fun _=>[],keep:=[1,2,3,4,9,54,55],dg:=[4]})]
def a17(x:aL×List bk×List Bool×Unit):fe:=bz [(3,fun S=>{σ:=Nat,ok:=fun k=>k<=x.1.1.2.2.1.length,mu:=fun k=>x.1.1.2.2.1.length-k,sl:=fun k=>[(16,.one (.aE I (k:Int))),(7,.one (.row I 1000))],bl:=fun k=>[(1000,.row false 3 I (je x.1 x.2.1 x.2.2.1 k))],keep:=[1,2,3,14,15],dg:=[3]}),(7,fun S=>{σ:=Nat,ok:=fun k=>k<=x.1.2.length/\cI (gL x.1 (fh S 8)) k=false,mu:=fun k=>x.1.2.length-k,sl:=fun k=>[(35,.one (.aE I (k:Int)))],bl:=fun k=>[],keep:=[1,2,3,7,8,14,15,16,33,34],dg:=[3,1000]})]
def pj(c:aL)(s:Int)(k:Nat):Int:=oK (dR (gL c s) k)
structure ue (W:fc):Prop where
 inv:k8 W
 own:c9 W.1.1=(W.1,0)
 short:da W.1.1
def nK(W:fc)(inn:fu)(calls:List Int):List Int:=calls++eJ W.1 W.2.1 inn.1
def IS(W:jV)(inn:fu)(calls:List Int):List Int:=calls++eJ W.1 W.2.1 inn.1
def tD(o:xN×Int)(n:Nat):xN×Int:=bif o.2==0 then((o.1.1,o.1.2.1,o.1.2.2.take n),0)else(([],[],[]),o.2)
@[irreducible]def nT(W:fc)(inn:fu)(calls aw:List Int):fc×xN×Int:=((gM W inn (nK W inn calls) aw).1,tD (gM W inn (nK W inn calls) aw).2 calls.length)
@[irreducible]def adR(W:jV)(inn:fu)(calls aw:List Int):jV×xN×Int:=((VD W inn (IS W inn calls) aw).1,tD (VD W inn (IS W inn calls) aw).2 calls.length)
def Az(W:fc)(calls aw:List Int):Prop:=ue W/\calls.length<=900/\aw.length<=1000
def O5:eR where args:=[EJ,.aE Ld,.aE (.list I),.aE (.list I)];outs:=[.aE (.pair (.list I) (.pair (.list I) (.list I))),.aE I];pre:=fun(x:fc×fu×List Int×List Int×Unit)=>Az x.1 x.2.2.1 x.2.2.2.1;fn:=fun(x:fc×fu×List Int×List Int×Unit)=>((nT x.1 x.2.1 x.2.2.1 x.2.2.2.1).2.1,(nT x.1 x.2.1 x.2.2.1 x.2.2.2.1).2.2,());iu:=fun(x:fc×fu×List Int×List Int×Unit)=>((nT x.1 x.2.1 x.2.2.1 x.2.2.2.1).1,x.2)
theorem Ug{c:aL}{s:Int}{x:Int}(h:x∈tz c s):∃k:Nat,x=(k:Int)/\k<c.2.length/\gL c s k=true/\∀j,j<k->gL c s j=false:=by unfold tz dR at h;simp only[List.mem_map,Option.mem_toList]at h;obtain⟨k,hk,rfl⟩:=h;rw[List.find?_range_eq_some]at hk;exact⟨k,rfl,List.mem_range.1 hk.2.1,hk.1,fun j hj=>by simpa using hk.2.2 j hj⟩
theorem Rc(c:aL)(s:Int):(tz c s).length<=1:=by unfold tz;cases dR (gL c s) c.2.length<;>simp
theorem JR{c:aL}{s:Int}{k:Nat}(hk:k<c.2.length)(h0:cI (gL c s) k=false)(h1:gL c s k=true):tz c s=[(k:Int)]:=by unfold tz;rw[q9 hk h0 h1];rfl
theorem Uh{c:aL}{s:Int}(h0:cI (gL c s) c.2.length=false):tz c s=[]:=by unfold tz;cases h:dR (gL c s) c.2.length with|none=>rfl|some k=>unfold dR at h;rw[List.find?_range_eq_some]at h;have:=fw.1 h0 k (List.mem_range.1 h.2.1);rw[h.1]at this;cases this
theorem G8(c:aL)(ls:List bk)(occ:List Bool)(s:Nat):(nc c ls occ s).length<=1:=by unfold nc;cases(c.1.2.2.1.getD s zS).2.2&&iX c ls occ (s:Int);exact cX _;exact Rc _ _
theorem Au(c:aL)(ls:List bk)(occ:List Bool):∀k,(je c ls occ k).length<=k|0=>aR _|k+1=>by have h1:=Au c ls occ k;have h2:=G8 c ls occ k;show(je c ls occ k++nc c ls occ k).length<=_;rw[dc];omega
theorem D7(c:aL)(ls:List bk)(occ:List Bool):(eJ c ls occ).length<=c.1.2.2.1.length:=by unfold eJ;exact Au _ _ _ _
structure Gd (c:aL) (ls:List bk) (occ:List Bool) (s:Nat) (x:Int):Prop where
 here:0<=x/\x<(c.2.length:Int)
 from_:(ax c x).1=(s:Int)
 bare:(ax c x).2.2.2.2.2.2.2.2=false
 auto:(c.1.2.2.1.getD s zS).2.2=true
 first:∀j:Nat,(j:Int)<x->gL c (s:Int) j=false
 afg:iX c ls occ (s:Int)=true
theorem Kd{c:aL}{ls:List bk}{occ:List Bool}{s:Nat}{x:Int}(h:x∈nc c ls occ s):Gd c ls occ s x:=by unfold nc at h;cases hb:(c.1.2.2.1.getD s zS).2.2&&iX c ls occ (s:Int)with|false=>rw[hb]at h;cases h|true=>rw[hb]at h;rw[af]at hb;obtain⟨k,rfl,h1,h2,h3⟩:=Ug h;unfold gL at h2;rw[af]at h2;refine⟨⟨by omega,by omega⟩,?_,?_,hb.1,fun j hj=>h3 j (by omega),hb.2⟩;unfold ax;rw[ai];exact eq_of_beq h2.1;unfold ax;rw[ai];simpa using h2.2
theorem CP{c:aL}{ls:List bk}{occ:List Bool}{x:Int}:∀{n},x∈je c ls occ n->∃s,s<n/\Gd c ls occ s x|0,h=>by cases h|n+1,h=>by rcases bf.1 h with h|h;obtain⟨s,h1,h2⟩:=CP h;exact⟨s,by omega,h2⟩;exact⟨n,by omega,Kd h⟩
theorem Eh{c:aL}{ls:List bk}{occ:List Bool}:∀n,(je c ls occ n).Pairwise fun a b=>(ax c a).1<(ax c b).1|0=>.nil|n+1=>by refine List.pairwise_append.2 ⟨Eh n,?_,fun a ha b hb=>?_⟩;have:=G8 c ls occ n;(match h:nc c ls occ n with|[]=>exact .nil|[x]=>exact List.pairwise_singleton _ _|_::_::_=>rw[h]at this;simp at this);obtain⟨s,h1,h2⟩:=CP ha;have h3:=Kd hb;rw[h2.from_,h3.from_];omega
theorem PA{c:aL}{ls:List bk}{occ:List Bool}{s:Int}(h:iX c ls occ s=true){k:Nat}(hk:k<c.2.length)(hf:(c.2.getD k zR).1=s):nA ls (k:Int)=0:=by unfold iX at h;rw[af]at h;(have h1:cI (r9 c ls s) c.2.length=false:=by simpa using h.1);have h2:=fw.1 h1 k hk;unfold r9 lC at h2;rw[hf]at h2;simpa using h2
section
variable {p:ab} {W:fc} {V:jV}
theorem ue.calls(h:ue W)(inn:fu){calls:List Int}(hc:calls.length<=900):(nK W inn calls).length<=1000:=by have:=h.inv.Af.sigs;have:=D7 W.1 W.2.1 inn.1;unfold nK;rw[dc];omega
theorem Ze(h:ue W)(inn:fu)(calls aw:List Int):ue (nT W inn calls aw).1:=by unfold nT;have hc:=zj W inn (nK W inn calls) aw;refine⟨MY h.inv _ _ _,?_,?_⟩;show c9 (gM _ _ _ _).1.1.1=((gM _ _ _ _).1.1,0);rw[hc];exact h.own;show da (gM _ _ _ _).1.1.1;rw[hc];exact h.short
theorem Ey(c:aL)(inn:fu)(l:List Int)(s:w9):∀k,(r8 c inn l s k).2.2.2.length=s.2.2.2.length+k|0=>rfl|k+1=>by have ih:=Ey c inn l s k;show(kj c inn (r8 c inn l s k) (l.getD k 0)).2.2.2.length=_;unfold kj;split<;>simp[ih]<;>omega
theorem Bx(W:fc)(inn:fu)(calls aw:List Int):((gM W inn calls aw).2.2=0/\(gM W inn calls aw).2.1.2.2.length=calls.length)\/((gM W inn calls aw).2.2=1/\(gM W inn calls aw).2.1=([],[],[])):=by unfold gM;split;refine .inl ⟨rfl,?_⟩;exact(Ey _ _ _ _ _).trans (by simp);exact .inr ⟨rfl,rfl⟩
theorem R3{inn:fu}(h:eJ W.1 W.2.1 inn.1=[])(calls aw:List Int):nT W inn calls aw=gM W inn calls aw:=by unfold nT;(have h1:nK W inn calls=calls:=by unfold nK;rw[h,List.append_nil]);rw[h1];have ht:=Bx W inn calls aw;generalize gM W inn calls aw=t at ht⊢;obtain⟨w,⟨a,b,d⟩,e⟩:=t;rcases ht with⟨h2,h3⟩|⟨h2,h3⟩;have h2:e=0:=h2;have h3:d.length=calls.length:=h3;subst h2;show(w,tD ((a,b,d),0) calls.length)=_;unfold tD;show(w,((a,b,d.take calls.length),(0:Int)))=_;rw[<-h3,fT];have h4:(a,b,d)=([],[],[]):=h3;have h5:e=1:=h2;clear h2 h3;subst h5;show(w,tD ((a,b,d),1) calls.length)=(w,(a,b,d),1);rw[h4];rfl
end
def Bf(p:ab)(e s:Int)(q:ah):Prop:=q.1=s/\(q.2.2.1=1->∃y:aq,q.2.1=cR p y/\0<=cR p y/\y.1≠e)
theorem Ko(p:ab)(e:Int)(r:ah)(s:c8)(pos stop to:Int)(h:stop≠1):Bf p e r.1 (fP r s pos stop to):=by unfold Bf fP;exact⟨rfl,fun h1=>absurd h1 h⟩
theorem Qh{p:ab}{e:Int}:∀(n:Nat)(r:ah)(x:aq)(met:List Int),e∈met->∀q∈oN p n r x met,Bf p e r.1 q|0,_,_,_,_,q,hq=>absurd hq b4|n+1,r,x,met,he,q,hq=>by have hq:q∈nv p (oN p n) r x met:=hq;unfold nv at hq;cases h1:cd met x.1||decide (r.2.2.2.1.length=12)with|true=>grind|false=>rw[h1]at hq;(have hx:x.1∉met:=fun hx=>by grind[cd]);have yo:x.1≠e:=fun h=>hx (by rw[h];exact he);cases h2:bq p x.1==4 with|true=>rw[h2]at hq;(have hq:q=fP r (x.1,x.2,-1) 0 2 (-1):=by grind);rw[hq];exact Ko p e r _ _ _ _ (by omega)|false=>rw[h2]at hq;unfold kE at hq;rw[fT]at hq;obtain⟨w,hw,hq⟩:=List.mem_flatMap.1 hq;unfold qA at hq;cases h3:decide (0<=cR p (x.1,w.1))with|true=>rw[h3]at hq;have hq:q=fP r (x.1,x.2,w.1) w.2 1 (cR p (x.1,w.1)):=aF.1 hq;rw[hq];unfold Bf fP;exact⟨rfl,fun _=>⟨(x.1,w.1),rfl,aj h3,yo⟩⟩|false=>rw[h3]at hq;cases h4:(ck p (x.1,w.1)).2 with|false=>rw[h4]at hq;have hq:q=fP r (x.1,x.2,w.1) w.2 3 (-1):=aF.1 hq;rw[hq];exact Ko p e r _ _ _ _ (by omega)|true=>rw[h4]at hq;have:=Qh n (fP r (x.1,x.2,w.1) w.2 0 (-1)) (ck p (x.1,w.1)).1 (met++[x.1]) (cC _ he) q hq;(have h0:(fP r (x.1,x.2,w.1) w.2 0 (-1)).1=r.1:=by unfold fP;rfl);rw[h0]at this;exact this
theorem SS{p:ab}{y:aq}(h:0<=cR p y):lB p (cR p y)=(y,true):=by unfold cR dR at h⊢;cases hf:(List.range p.2.2.1.length).find? fun i=>(p.2.2.1.getD i zS).2.1==y with|none=>rw[hf]at h;exact absurd h (by show¬(0:Int)<=-1;omega)|some i=>rw[List.find?_range_eq_some]at hf;show lB p (i:Int)=_;unfold lB;have hi:=List.mem_range.1 hf.2.1;have h1:decide ((i:Int)<0)=false:=ba (by omega);have h2:decide ((p.2.2.1.length:Int)<=(i:Int))=false:=ba (by omega);rw[h1,h2,ai];show((p.2.2.1.getD i zS).2.1,true)=_;rw[eq_of_beq hf.1]
theorem Yq{p:ab}:∀q∈(dC p).1,q.2.2.1=1->q.2.1≠q.1/\0<=q.2.1/\q.2.1<(p.2.2.1.length:Int):=by intro q hq h1;unfold dC at hq;cases h:cI (kT p) p.2.2.1.length with|true=>grind|false=>rw[h]at hq;unfold gf at hq;obtain⟨s,_,hq⟩:=List.mem_flatMap.1 hq;unfold o0 at hq;cases h2:(lB p (s:Int)).2 with|false=>grind|true=>rw[h2]at hq;cases h3:(ck p (lB p (s:Int)).1).2 with|false=>grind|true=>rw[h3]at hq;have ha:=Qh 13 (uN (s:Int)) _ _ (aF.2 rfl) q hq;obtain⟨y,e1,e2,e3⟩:=ha.2 h1;have hr:=SS e2;have h0:q.1=(s:Int):=ha.1;refine⟨fun e=>e3 ?_,by omega,?_⟩;rw[<-e1,e,h0]at hr;rw[hr];rw[e1];have:=hr;unfold lB at this;cases hd:decide (cR p y<0)||decide ((p.2.2.1.length:Int)<=cR p y)with|true=>rw[hd]at this;cases this|false=>rw[cW]at hd;have:=av hd.2;omega
theorem II{p:ab}(h:oy p){r:ah}(hr:r∈(bn p).1)(h1:r.2.2.1=1):r.2.1≠r.1/\0<=r.2.1/\r.2.1<(p.2.2.1.length:Int):=by obtain⟨q,hq,rfl⟩:=h.qS r hr;obtain⟨s1,s2,s3,_⟩:=rU p q;rw[s3]at h1;rw[s1,s2];exact Yq q hq h1
theorem Rv{c:aL}{ls:List bk}(hl:ls.length=c.2.length)(hi:tS c ls){occ:List Bool}(hv:tm occ):eJ c ls occ=[]:=by
 have hs:∀i:Nat,nA ls (i:Int)=0:=fun i=>by unfold nA;by_cases h:i<c.2.length;have h1:decide ((i:Int)<0)=false:=ba (by omega);have h2:decide ((ls.length:Int)<=(i:Int))=false:=ba (by omega);rw[h1,h2,ai];exact hi i h;have h2:decide ((ls.length:Int)<=(i:Int))=true:=cO (by omega);rw[h2,Bool.or_true];rfl
 have hw:∀s:Int,iX c ls occ s=false:=fun s=>by unfold iX zI;(have h1:w4 c.1 occ (VZ c.1 s)=false:=by unfold w4;rw[B8 hv];simp);(have h2:cI (Ct c ls s) c.2.length=false:=fw.2 fun i _=>by unfold Ct lC;rw[hs];simp);rw[h1,h2];simp
 unfold eJ;have:∀n,je c ls occ n=[]:=by intro n;induction n with|zero=>rfl|succ n ih=>show je c ls occ n++nc c ls occ n=[];rw[ih];unfold nc;rw[hw];simp
 exact this _
theorem G6{c:aL}{ls:List bk}{occ:List Bool}{s:Nat}{x:Int}(h:x∈nc c ls occ s):∀{n},s<n->x∈je c ls occ n|0,hn=>by omega|n+1,hn=>by rcases Nat.lt_or_ge s n with h1|h1;exact cC _ (G6 h h1);(have:s=n:=by omega);rw[<-this];exact cD _ h
theorem SL{p:ab}(h:oy p){W:fc}(hc:W.1=cA p){i:Nat}(ho:Po W i)(LY:(ax W.1 (i:Int)).2.2.1=1)(ha:(p.2.2.1.getD (ax W.1 (i:Int)).2.1.toNat zS).2.2=true)(occ:List Bool){j:Nat}(hj:j<W.1.2.length)(h0:cI (gL W.1 (ax W.1 (i:Int)).2.1) j=false)(h1:gL W.1 (ax W.1 (i:Int)).2.1 j=true):(j:Int)∈eJ W.1 W.2.1 occ:=by
 have hm:=jO (c:=W.1) (o:=(i:Int)) ⟨by omega,by have:=ho.GU;omega⟩;have hw:=II h (r:=ax W.1 (i:Int)) (by rw[hc]at hm⊢;exact hm) LY;have hlen:W.1.1.2.2.1=p.2.2.1:=by rw[hc];rfl
 generalize hs:(ax W.1 (i:Int)).2.1=s at*;have ll:∀k:Nat,k<W.1.2.length->nA W.2.1 (k:Int)=(W.2.1.getD k gu).1:=fun k hk=>by unfold nA;have hl:=ho.inv.inv.len;have e1:decide ((k:Int)<0)=false:=ba (by omega);have e2:decide ((W.2.1.length:Int)<=(k:Int))=false:=ba (by omega);rw[e1,e2,ai];rfl
 have Xh:W.1.2.getD i zR=ax W.1 (i:Int):=by unfold ax;rw[ai]
 have ahg:iX W.1 W.2.1 occ s=true:=by unfold iX zI;(have e1:cI (r9 W.1 W.2.1 s) W.1.2.length=false:=fw.2 fun k hk=>by unfold r9 lC;by_cases e:k=i;rw[e,Xh];have:((ax W.1 (i:Int)).1==s)=false:=beq_eq_false_iff_ne.2 fun e=>hw.1 e.symm;rw[this];rfl;rw[ll k hk,ho.idle k hk e];simp);have e2:cI (Ct W.1 W.2.1 s) W.1.2.length=true:=mw ho.GU (by unfold Ct lC;rw[Xh,LY,hs,ll i ho.GU];rcases ho.up with e|e<;>rw[e]<;>simp);rw[e1,e2];simp
 have FI:(j:Int)∈nc W.1 W.2.1 occ s.toNat:=by have es:((s.toNat:Nat):Int)=s:=Int.toNat_of_nonneg hw.2.1;unfold nc;rw[es,hlen,ha,ahg,JR hj h0 h1];exact aF.2 rfl
 unfold eJ;refine G6 FI ?_;rw[hlen];omega
def ad9(p:ab)(W:fc)(a:vO):fc:=(nT W (qv p a) a.2.2.2.2.1 a.2.2.2.2.2).1
def aek(p:ab)(l:List vO):Nat->fc|0=>wH (cA p)|k+1=>ad9 p (aek p l k) (l.getD k Yx)
def ad8(p:ab)(V:jV)(a:vO):jV:=(adR V (qv p a) a.2.2.2.2.1 a.2.2.2.2.2).1
def aej(p:ab)(l:List vO):Nat->jV|0=>SU (cA p)|k+1=>ad8 p (aej p l k) (l.getD k Yx)
theorem Hf{p:ab}(hR:(bn p).2=true):ue (wH (cA p)) where inv:=Yc hR;own:=As hR;short:=(uM hR).short
def IY(l:List gO):Nat->List gO|0=>l|k+1=>(IY l k).set k (((IY l k).getD k zS).1,((IY l k).getD k zS).2.1,false)
def aeu(p:ab):ab:=(p.1,p.2.1,IY p.2.2.1 p.2.2.1.length,p.2.2.2)
abbrev aiC:eP:=.pair (.aE (.list AG)) (.pair (.aE (.list AF)) (.pair (.row 44 sf) (.aE (.pair (.list w8) (.pair I (.pair I (.pair I (.pair I .bool))))))))
def Ry:eR where args:=[];outs:=[aiC];pre:=fun(x:Unit)=>True;fn:=fun(x:Unit)=>(C4,())
def K8:bu where args:=[];out:=.data [.bool];pre:=fun(x:Unit)=>True;fn:=fun(x:Unit)=>(true,())
def c3:bu:=HS [PlanT,.list LifeT,.list .bool]
def a4(x:ab×List vO×Unit):fe:=bz [(6,fun S=>{σ:=Nat,ok:=fun k=>k<=x.1.2.2.1.length,mu:=fun k=>x.1.2.2.1.length-k,sl:=fun k=>[(6,.one (.aE I (k:Int)))],bl:=fun k=>[(5,Ep S 5 [(2,.row sf 1000)]),(1000,.row false 44 sf (IY x.1.2.2.1 k))],keep:=[1,2,5],dg:=[2]}),(16,fun S=>{σ:=Nat,ok:=fun k=>k<=x.2.1.length,mu:=fun k=>x.2.1.length-k,sl:=fun k=>[(11,.one (.aE I (k:Int))),(7,.one (.ptr 2000 0)),(9,.one (.ptr 3000 0))],bl:=fun k=>Pf (YX (aeu x.1) x.2.1 k) 2000++Pf (YX (aeu x.1) x.2.1 k) 3000,keep:=[1,5],dg:=[5,1000]})]
def DD(c:aL)(out:List Int):Nat->Int|0=>-1|k+1=>(ax c (out.getD k 0)).1
def c5:bu:=HS [PlanT,.list LifeT,.list .bool]
def NI(x:ab×List bk×List Bool×Unit):List Int:=eJ (cA x.1) x.2.1 x.2.2.1
def a5(x:ab×List bk×List Bool×Unit):fe:=bz [(9,fun S=>{σ:=Nat,ok:=fun k=>k<=(NI x).length,mu:=fun k=>(NI x).length-k,sl:=fun k=>[(11,.one (.aE I (k:Int))),(10,.one (.aE I (DD (cA x.1) (NI x) k)))],bl:=fun k=>[],keep:=[1,3,7,9],dg:=[3]}),(17,fun S=>{σ:=Nat,ok:=fun k=>k<=(bn x.1).1.length,mu:=fun k=>(bn x.1).1.length-k,sl:=fun k=>[(13,.one (.aE I (k:Int)))],bl:=fun k=>[],keep:=[1,3,7,9,11,12],dg:=[3]})]
def c6:bu:=HS [PlanT,.int .u8]
def runK(x:ab×Int×Unit):Int:=x.2.1.tmod ((bn x.1).1.length:Int)
def a6(x:ab×Int×Unit):fe:=bz [(17,fun S=>{σ:=Nat,ok:=fun k=>k<=(bn x.1).1.length,mu:=fun k=>(bn x.1).1.length-k,sl:=fun k=>[(13,.one (.aE I (k:Int))),(12,.one (.aE I (pj (cA x.1) (ax (cA x.1) (runK x)).2.1 k)))],bl:=fun k=>[],keep:=[5,7,11],dg:=[]})]
def abg(p:ab)(l:List vO)(k:Nat):List (Nat×dw):=Pf (aek p l k) 2000++abe (aej p l k) 3000
def a7(x:ab×List vO×Unit):fe:=bz [(9,fun S=>{σ:=Nat,ok:=fun k=>k<=x.2.1.length,mu:=fun k=>x.2.1.length-k,sl:=fun k=>[(7,.one (.aE I (k:Int))),(5,.one (.ptr 2000 0)),(6,.one (.ptr 3000 0))],bl:=fun k=>abg x.1 x.2.1 k,keep:=[1,2],dg:=[2]})]
theorem akn(ls:List (Int×Int×Bool×List Bool))(i:Int):ar (ao aK []) Tryz.f114 MV aC (ls,i,())=( U (decide (i<(ls.length:Int))) fun(y2:Bool)=>(y2=true->aU i ls.length)/\(bif y2 then(ls.getD i.toNat ((0:Int),(0:Int),false,[])).1!=(0:Int)else false)=lC ls i/\True):=by kernel_rfl
theorem anJ(ls:List bk)(i:Int)(h0:0<=i):ar (ao aK []) Tryz.f114 MV aC (ls,i,()):=by rw[akn];refine U.mk fun y2 e2=>⟨fun h=>⟨h0,aj (e2.symm.trans h)⟩,?_,trivial⟩;unfold lC nA;have h1:decide (i<0)=false:=ba (by omega);rw[e2,h1,Bool.false_or];by_cases h:i<(ls.length:Int);rw[cO h,ba (by omega:¬((ls.length:Int)<=i))];rfl;rw[ba h,cO (by omega:(ls.length:Int)<=i)];rfl
theorem agT:aT Tryz.prog 114 MV:=aT.cN (l:=[]) (A:=fun _=>aC) aM trivial Tryz.func114 (by rfl) (by rfl) fun x hw hp=>anJ x.1 x.2.1 hp
theorem Zc(p:ab)(occ:List Bool)(e:Int):w4 p occ e=bif(bif(bif decide (e>=0)then decide (e<(occ.length:Int))else false)then occ.getD e.toNat false else false)then(bif decide (e>=(p.1.length:Int))then true else(p.1.getD e.toNat ([],0,0)).2.1!=4)else false:=by unfold w4 tX bq;by_cases h0:0<=e;rw[cO h0,ba (by omega:¬e<0)];by_cases h1:e<(occ.length:Int);rw[cO h1];cases occ.getD e.toNat false;simp;by_cases h2:e>=(p.1.length:Int);rw[cO h2];simp;rw[ba h2];show(!((p.1.getD e.toNat zE).2.1==4)&&true)=((p.1.getD e.toNat zE).2.1!=4);rw[Bool.and_true];rfl;rw[ba h1];simp;rw[ba h0];simp
theorem v61(c:(ab)×List (ah))(ls:List (Int×Int×Bool×List Bool))(occ:List Bool)(s:Int):ar (ao aK [(114,MV)]) Tryz.f61 X8 (a61 (c,ls,occ,s,())) (c,ls,occ,s,())=( U (c.1.2.2.1.getD s.toNat ([],((0:Int),(0:Int)),false)).2.1.1 fun(y4:Int)=>U (bif decide (y4>=(0:Int))then decide (y4<(occ.length:Int))else false) fun(y5:Bool)=>U (bif y5 then occ.getD y4.toNat false else false) fun(y6:Bool)=>U (decide (y4>=(c.1.1.length:Int))) fun(y7:Bool)=>U ((0:Int),(0:Int),(0:Int),[],[],[],[],[],false) fun(y8:ah)=>aU s c.1.2.2.1.length/\(y5=true->aU y4 occ.length)/\(y6=true->y7=false->aU y4 c.1.1.length)/\(∃(wQ:Nat),(wQ<=c.2.length/\cI (r9 c ls s) wQ=false)/\(wQ:Int)=(0:Int)/\(zI c ls occ s wQ=bif y6 then bif y7 then true else(c.1.1.getD y4.toNat ([],(0:Int),(0:Int))).2.1!=(4:Int)else false)/\ls=ls/\occ=occ/\s=s/\y4=y4/\c.2=c.2/\(c.2.length:Int)=(c.2.length:Int)/\aJ c.1 (c.2=c.2/\True))/\∀(s9:Nat),U (decide ((s9:Int)<(c.2.length:Int))) fun(bK:Bool)=>U (zI c ls occ s s9) fun(bO:Bool)=>U (c.2.getD (s9:Int).toNat y8) fun(aY:ah)=>s9<=c.2.length/\cI (r9 c ls s) s9=false->(bK=true->aU (s9:Int) c.2.length/\(0:Int)<=(s9:Int)/\((!lC ls (s9:Int))=true->bF IntKind.i64 ((s9:Int)+(1:Int))/\∃(fC:Nat),(fC<=c.2.length/\cI (r9 c ls s) fC=false)/\c.2.length-fC<c.2.length-s9/\(fC:Int)=(s9:Int)+(1:Int)/\zI c ls occ s fC=bO/\ls=ls/\occ=occ/\s=s/\y4=y4/\c.2=c.2/\(c.2.length:Int)=(c.2.length:Int)/\aJ c.1 (c.2=c.2/\True))/\((!lC ls (s9:Int))=false->((aY.1==s)=true->false=iX c ls occ s/\True)/\((aY.1==s)=false->bF IntKind.i64 ((s9:Int)+(1:Int))/\∃(fC:Nat),(fC<=c.2.length/\cI (r9 c ls s) fC=false)/\c.2.length-fC<c.2.length-s9/\(fC:Int)=(s9:Int)+(1:Int)/\(zI c ls occ s fC=bif bO then true else bif aY.2.2.1==(1:Int)then aY.2.1==s else false)/\ls=ls/\occ=occ/\s=s/\y4=y4/\c.2=c.2/\(c.2.length:Int)=(c.2.length:Int)/\aJ c.1 (c.2=c.2/\True))))/\(bK=false->bO=iX c ls occ s/\True)):=by kernel_rfl
theorem b61(c:aL)(ls:List bk)(occ:List Bool)(s:Int)(hs:0<=s/\s<(c.1.2.2.1.length:Int))(hl:c.2.length<=bj):ar (ao aK [(114,MV)]) Tryz.f61 X8 (a61 (c,ls,occ,s,())) (c,ls,occ,s,()):=by
 rw[v61];simp only[dY,aB,au,bB];refine U.mk fun y4 e4=>U.mk fun y5 e5=>U.mk fun y6 e6=>U.mk fun y7 e7=>U.mk fun y8 e8=>⟨hs,fun h=>?_,fun h h'=>?_,⟨0,⟨cX _,rfl⟩,rfl,?_⟩,fun k=>U.mk fun bK fB=>U.mk fun bO gk=>U.mk fun aY gj=>?_⟩;obtain⟨q1,q2⟩:=vM (e5.symm.trans h);exact⟨aj q1,aj q2⟩;have:=av (e7.symm.trans h');obtain⟨q1,q2⟩:=vM (e5.symm.trans (vM (e6.symm.trans h)).1);have:=aj q1;exact⟨this,by omega⟩;unfold zI;rw[Zc,e6,e5,e7,e4];show(_||false)=_;rw[Bool.or_false];rfl;rw[ai]at gj;rintro⟨hk,hn⟩;have hb:r9 c ls s k=((aY.1==s)&&lC ls (k:Int)):=by rw[gj,e8];rfl
 have hd:Ct c ls s k=(aY.2.2.1==1&&(aY.2.1==s&&lC ls (k:Int))):=by rw[gj,e8];rfl
 have Ol:zI c ls occ s (k+1)=(bO||Ct c ls s k):=by rw[gk];unfold zI;show(_||(_||_))=_;rw[Bool.or_assoc]
 refine⟨fun h=>?_,fun h=>?_⟩;have iL:k<c.2.length:=by have:=aj (fB.symm.trans h);omega
 refine⟨⟨by omega,by omega⟩,by omega,fun ha=>?_,fun ha=>⟨fun hf=>?_,fun hf=>?_⟩⟩;have ha:lC ls (k:Int)=false:=by simpa using ha
 refine⟨dM (by omega) hl,k+1,⟨by omega,im hn (by rw[hb,ha,Bool.and_false])⟩,by omega,by omega,?_⟩;rw[Ol,hd,ha];simp;have ha:lC ls (k:Int)=true:=by simpa using ha
 unfold iX;rw[mw iL (by rw[hb,hf,ha];rfl)];rfl;have ha:lC ls (k:Int)=true:=by simpa using ha
 refine⟨dM (by omega) hl,k+1,⟨by omega,im hn (by rw[hb,hf];rfl)⟩,by omega,by omega,?_⟩;rw[Ol,hd,ha,Bool.and_true];cases bO<;>cases(aY.2.2.1==1)<;>rfl;have hge:k=c.2.length:=by have:=av (fB.symm.trans h);omega
 unfold iX;rw[<-hge,hn,gk];rfl
theorem akR:aT Tryz.prog 61 X8:=aT.cN (l:=[(114,MV)]) (A:=a61) aM ⟨agT,trivial⟩ Tryz.func61 (by rfl) (by rfl) fun x hw hp=>b61 x.1 x.2.1 x.2.2.1 x.2.2.2.1 hp hw.1.2.1
theorem UA{c:aL}{ls:List bk}{occ:List Bool}{s:Nat}(h:((c.1.2.2.1.getD s zS).2.2&&iX c ls occ (s:Int))=false):nc c ls occ s=[]:=by unfold nc;rw[h];rfl
theorem G7{c:aL}{ls:List bk}{occ:List Bool}{s:Nat}(h:((c.1.2.2.1.getD s zS).2.2&&iX c ls occ (s:Int))=true):nc c ls occ s=tz c (s:Int):=by unfold nc;rw[h];rfl
theorem yF(c:aL)(ls:List bk)(occ:List Bool)(s:Nat):je c ls occ (s+1)=je c ls occ s++nc c ls occ s:=rfl
theorem v17(c:(ab)×List (ah))(ls:List (Int×Int×Bool×List Bool))(occ:List Bool):ar (ao aK [(61,X8)]) Tryz.f17 c17 (a17 (c,ls,occ,())) (c,ls,occ,())=((∃(gq:Nat),gq<=c.1.2.2.1.length/\(gq:Int)=(0:Int)/\ls=ls/\occ=occ/\c.1.2.2.1=c.1.2.2.1/\(c.1.2.2.1.length:Int)=(c.1.2.2.1.length:Int)/\je c ls occ gq=[]/\aJ c.1 (c.2=c.2/\True))/\∀(s3:Nat),U (decide ((s3:Int)<(c.1.2.2.1.length:Int))) fun(y4:Bool)=>U (!(c.1.2.2.1.getD (s3:Int).toNat ([],((0:Int),(0:Int)),false)).2.2) fun(y5:Bool)=>U (bif y5 then true else !iX c ls occ (s3:Int)) fun(y6:Bool)=>s3<=c.1.2.2.1.length->(y4=true->aU (s3:Int) c.1.2.2.1.length/\(y5=false->(0:Int)<=(s3:Int)/\(s3:Int)<(c.1.2.2.1.length:Int))/\(y6=true->bF IntKind.i64 ((s3:Int)+(1:Int))/\∃(mU:Nat),mU<=c.1.2.2.1.length/\c.1.2.2.1.length-mU<c.1.2.2.1.length-s3/\(mU:Int)=(s3:Int)+(1:Int)/\ls=ls/\occ=occ/\c.1.2.2.1=c.1.2.2.1/\(c.1.2.2.1.length:Int)=(c.1.2.2.1.length:Int)/\je c ls occ mU=je c ls occ s3/\aJ c.1 (c.2=c.2/\True))/\(y6=false->(∃(lf:Nat),(lf<=c.2.length/\cI (gL c (s3:Int)) lf=false)/\(lf:Int)=(0:Int)/\ls=ls/\occ=occ/\(s3:Int)=(s3:Int)/\c.1.2.2.1=c.1.2.2.1/\(c.1.2.2.1.length:Int)=(c.1.2.2.1.length:Int)/\(s3:Int)=(s3:Int)/\c.2=c.2/\(c.2.length:Int)=(c.2.length:Int)/\aJ c.1 (c.2=c.2/\je c ls occ s3=je c ls occ s3/\True))/\∀(s7:Nat),U (decide ((s7:Int)<(c.2.length:Int))) fun(y8:Bool)=>U (c.2.getD (s7:Int).toNat ((0:Int),(0:Int),(0:Int),[],[],[],[],[],false)) fun(y9:ah)=>U (bif y9.1==(s3:Int)then !y9.2.2.2.2.2.2.2.2 else false) fun(bK:Bool)=>U ((List.replicate (1:Nat) (0:Int)).set (0:Nat) (s7:Int)) fun(bO:List Int)=>s7<=c.2.length/\cI (gL c (s3:Int)) s7=false->(y8=true->aU (s7:Int) c.2.length/\(bK=true->roomFor ((je c ls occ s3).length+bO.length) (8:Nat)/\bF IntKind.i64 ((s3:Int)+(1:Int))/\∃(jn:Nat),jn<=c.1.2.2.1.length/\c.1.2.2.1.length-jn<c.1.2.2.1.length-s3/\(jn:Int)=(s3:Int)+(1:Int)/\ls=ls/\occ=occ/\c.1.2.2.1=c.1.2.2.1/\(c.1.2.2.1.length:Int)=(c.1.2.2.1.length:Int)/\je c ls occ jn=je c ls occ s3++bO/\aJ c.1 (c.2=c.2/\True))/\(bK=false->bF IntKind.i64 ((s7:Int)+(1:Int))/\∃(jn:Nat),(jn<=c.2.length/\cI (gL c (s3:Int)) jn=false)/\c.2.length-jn<c.2.length-s7/\(jn:Int)=(s7:Int)+(1:Int)/\ls=ls/\occ=occ/\(s3:Int)=(s3:Int)/\c.1.2.2.1=c.1.2.2.1/\(c.1.2.2.1.length:Int)=(c.1.2.2.1.length:Int)/\(s3:Int)=(s3:Int)/\c.2=c.2/\(c.2.length:Int)=(c.2.length:Int)/\aJ c.1 (c.2=c.2/\je c ls occ s3=je c ls occ s3/\True)))/\(y8=false->bF IntKind.i64 ((s3:Int)+(1:Int))/\∃(jn:Nat),jn<=c.1.2.2.1.length/\c.1.2.2.1.length-jn<c.1.2.2.1.length-s3/\(jn:Int)=(s3:Int)+(1:Int)/\ls=ls/\occ=occ/\c.1.2.2.1=c.1.2.2.1/\(c.1.2.2.1.length:Int)=(c.1.2.2.1.length:Int)/\je c ls occ jn=je c ls occ s3/\aJ c.1 (c.2=c.2/\True))))/\(y4=false->je c ls occ s3=eJ c ls occ/\True)):=by kernel_rfl
theorem b17(c:aL)(ls:List bk)(occ:List Bool)(hs:c.1.2.2.1.length<=1000)(hl:c.2.length<=bj):ar (ao aK [(61,X8)]) Tryz.f17 c17 (a17 (c,ls,occ,())) (c,ls,occ,()):=by
 rw[v17];simp only[dY,aB,au,bB];refine⟨⟨0,cX _,rfl,rfl⟩,fun s=>U.mk fun y4 e4=>U.mk fun y5 e5=>U.mk fun y6 e6=>fun hk=>⟨fun h=>?_,fun h=>?_⟩⟩;have iL:s<c.1.2.2.1.length:=by have:=aj (e4.symm.trans h);omega
 rw[ai]at e5;have hau:(c.1.2.2.1.getD s zS).2.2=!y5:=by rw[e5,jA];rfl
 have oL:=Au c ls occ s;refine⟨⟨by omega,by omega⟩,fun _=>⟨by omega,by omega⟩,fun h6=>?_,fun h6=>⟨⟨0,⟨cX _,rfl⟩,rfl⟩,fun k=>U.mk fun y8 e8=>U.mk fun y9 e9=>U.mk fun bK fB=>U.mk fun bO gk=>?_⟩⟩;refine⟨bD (by omega) (by omega),s+1,by omega,by omega,by omega,?_⟩;rw[yF,UA (by rw[hau];have h7:=e6.symm.trans h6;clear e5 e6 hau;generalize iX c ls occ (s:Int)=w at h7⊢;revert h7;cases y5<;>cases w<;>decide),List.append_nil];have hY:((c.1.2.2.1.getD s zS).2.2&&iX c ls occ (s:Int))=true:=by rw[hau];have h7:=e6.symm.trans h6;clear e5 e6 hau;generalize iX c ls occ (s:Int)=w at h7⊢;revert h7;cases y5<;>cases w<;>decide
 rw[ai]at e9;rintro⟨hk,hn⟩;have hfa:gL c (s:Int) k=bK:=by have h9:c.2.getD k zR=y9:=e9.symm;unfold gL;rw[fB,h9];cases(y9.1==(s:Int))<;>rfl
 refine⟨fun h8=>?_,fun h8=>?_⟩;have T2:k<c.2.length:=by have:=aj (e8.symm.trans h8);omega
 refine⟨⟨by omega,by omega⟩,fun qm=>⟨dn (by rw[gk];show _+1<=_;omega) (by omega),bD (by omega) (by omega),s+1,by omega,by omega,by omega,?_⟩,fun qm=>⟨dM (by omega) hl,k+1,⟨by omega,im hn (hfa.trans qm)⟩,by omega,by omega⟩⟩;rw[yF,G7 hY,JR T2 hn (hfa.trans qm),gk];rfl;have T2:k=c.2.length:=by have:=av (e8.symm.trans h8);omega
 refine⟨bD (by omega) (by omega),s+1,by omega,by omega,by omega,?_⟩;rw[yF,G7 hY,Uh (by rw[<-T2];exact hn),List.append_nil];have:s=c.1.2.2.1.length:=by have:=av (e4.symm.trans h);omega
 unfold eJ;rw[this]
theorem ak0:aT Tryz.prog 17 c17:=aT.cN (l:=[(61,X8)]) (A:=a17) aM ⟨akR,trivial⟩ Tryz.func17 (by rfl) (by rfl) fun x hw hp=>b17 x.1 x.2.1 x.2.2.1 hp hw.1.2.1
theorem NK:aT Tryz.prog 17 wC:=ak0.Kr rfl
theorem Rb(f:Nat->Bool)(k:Nat):oK (dR f (k+1))=bif decide (oK (dR f k)<0)&&f k then(k:Int)else oK (dR f k):=by unfold dR;rw[gQ,List.find?_append];cases h:(List.range k).find? f with|some i=>show(i:Int)=bif decide ((i:Int)<0)&&f k then(k:Int)else(i:Int);rw[ba (by omega:¬(i:Int)<0)];rfl|none=>show oK (List.find? f [k])=bif decide ((-1:Int)<0)&&f k then(k:Int)else-1;cases hf:f k<;>simp[hf,oK]
theorem adV{o:xN×Int}(h:o.2=0)(n:Nat):tD o n=((o.1.1,o.1.2.1,o.1.2.2.take n),0):=by unfold tD;rw[h];rfl
theorem adW{o:xN×Int}(h:o.2=1)(n:Nat):tD o n=(([],[],[]),1):=by unfold tD;rw[h];rfl
theorem v23(W:((ab)×List (ah))×List (Int×Int×Bool×List Bool)×(aA)×(Option (bt)×List ((Int×Int)×Bool))×List Int)(inn:List Bool×List Int×List Bool×List Bool)(calls:List Int)(aw:List Int):cq (ao aK [(28,FX),(27,Ek),(17,wC),(24,Yb)]) Tryz.f23 O5 aC (W,inn,calls,aw,())=( U (eJ (c9 W.1.1).1 W.2.1 inn.1) fun(y4:List Int)=>U (gM W inn (calls++y4) aw) fun(y5:fc×xN×Int)=>U (nT W inn calls aw).2 fun(y6:xN×Int)=>U (nT W inn calls aw).1 fun(y7:fc)=>roomFor calls.length (8:Nat)/\da W.1.1/\k8 W/\(c9 W.1.1).1.1.2.2.1.length<=(1000:Nat)/\roomFor (calls.length+y4.length) (8:Nat)/\Il W inn (calls++y4) aw/\((y5.2.2!=(0:Int))=true->([],[],[])=y6.1/\y5.2.2=y6.2/\y5.1.1=y7.1/\y5.1.2.1=y7.2.1/\y5.1.2.2.1.1=y7.2.2.1.1/\y5.1.2.2.1.2.1.Perm y7.2.2.1.2.1/\y5.1.2.2.1.2.2.1.Perm y7.2.2.1.2.2.1/\y5.1.2.2.1.2.2.2.1.Perm y7.2.2.1.2.2.2.1/\y5.1.2.2.1.2.2.2.2.Perm y7.2.2.1.2.2.2.2/\y5.1.2.2.2.1.1=y7.2.2.2.1.1/\y5.1.2.2.2.1.2.Perm y7.2.2.2.1.2/\y5.1.2.2.2.2=y7.2.2.2.2/\True)/\((y5.2.2!=(0:Int))=false->((0:Int)<=(calls.length:Int)/\(calls.length:Int)<=(y5.2.1.2.2.length:Int))/\(y5.2.1.1,y5.2.1.2.1,List.take (calls.length:Int).toNat y5.2.1.2.2)=y6.1/\(0:Int)=y6.2/\y5.1.1=y7.1/\y5.1.2.1=y7.2.1/\y5.1.2.2.1.1=y7.2.2.1.1/\y5.1.2.2.1.2.1.Perm y7.2.2.1.2.1/\y5.1.2.2.1.2.2.1.Perm y7.2.2.1.2.2.1/\y5.1.2.2.1.2.2.2.1.Perm y7.2.2.1.2.2.2.1/\y5.1.2.2.1.2.2.2.2.Perm y7.2.2.1.2.2.2.2/\y5.1.2.2.2.1.1=y7.2.2.2.1.1/\y5.1.2.2.2.1.2.Perm y7.2.2.2.1.2/\y5.1.2.2.2.2=y7.2.2.2.2/\True)):=by kernel_rfl
theorem b23(W:fc)(inn:fu)(calls aw:List Int)(hp:Az W calls aw):cq (ao aK [(28,FX),(27,Ek),(17,wC),(24,Yb)]) Tryz.f23 O5 aC (W,inn,calls,aw,()):=by
 obtain⟨h,hc,hx⟩:=hp;rw[v23];refine U.mk fun y4 e4=>U.mk fun y5 e5=>U.mk fun y6 e6=>U.mk fun y7 e7=>?_;have ho:(c9 W.1.1).1=W.1:=by rw[h.own]
 rw[ho]at e4;have h5:y5=gM W inn (nK W inn calls) aw:=by rw[e5,e4];rfl
 have hlen:=h.calls inn hc;have hl4:calls.length+y4.length<=1000:=by(have:(nK W inn calls).length=calls.length+y4.length:=by rw[e4];exact dc);omega
 have ha:=Bx W inn (nK W inn calls) aw;rw[<-h5]at ha;have h6:y6=tD y5.2 calls.length:=by rw[e6,h5];unfold nT;rfl
 have h7:y7=y5.1:=by rw[e7,h5];unfold nT;rfl
 have hs:(c9 W.1.1).1.1.2.2.1.length<=1000:=by rw[ho];have:=h.inv.Af.sigs;omega
 clear e4 e5 e6 e7 h5;subst h7;refine⟨dn (by omega) (by omega),h.short,h.inv,hs,dn (by omega) (by omega),⟨h.inv,by rw[dc];omega,hx⟩,fun he=>?_,fun he=>?_⟩;rcases ha with⟨q1,q2⟩|⟨q1,q2⟩;rw[q1]at he;cases he;rw[h6,adW q1];exact⟨rfl,q1,rfl,rfl,rfl,.refl _,.refl _,.refl _,.refl _,rfl,.refl _,rfl,trivial⟩;rcases ha with⟨q1,q2⟩|⟨q1,q2⟩;rw[h6,adV q1];refine⟨⟨by omega,?_⟩,rfl,rfl,rfl,rfl,rfl,.refl _,.refl _,.refl _,.refl _,rfl,.refl _,rfl,trivial⟩;rw[q2];unfold nK;rw[dc];omega;rw[q1]at he;cases he
theorem aer:fM Tryz.prog 23 O5:=fM.cN (l:=[(28,FX),(27,Ek),(17,wC),(24,Yb)]) (A:=fun _=>aC) aM ⟨Zl,Zn,NK,akZ,trivial⟩ Tryz.func23 (by rfl) (by rfl) fun x hw hp=>b23 x.1 x.2.1 x.2.2.1 x.2.2.2.1 hp
theorem ai2:cq (ao aK [(110,VX)]) Tryz.f57 Ry aC (())=( U ((10:Int),(5:Int),(15:Int),(2:Int),false) fun(y0:Int×Int×Int×Int×Bool)=>True/\True/\True/\True/\True/\((((((List.replicate (6:Nat) ([],(0:Int),(0:Int))).set (0:Nat) ([(87:UInt8)],(4:Int),(0:Int))).set (1:Nat) ([(65:UInt8)],(1:Int),(20:Int))).set (2:Nat) ([(80:UInt8)],(2:Int),(10:Int))).set (3:Nat) ([(66:UInt8)],(1:Int),(20:Int))).set (4:Nat) ([(67:UInt8)],(1:Int),(30:Int))).set (5:Nat) ([(69:UInt8)],(4:Int),(0:Int))=[([(87:UInt8)],(4:Int),(0:Int)),([(65:UInt8)],(1:Int),(20:Int)),([(80:UInt8)],(2:Int),(10:Int)),([(66:UInt8)],(1:Int),(20:Int)),([(67:UInt8)],(1:Int),(30:Int)),([(69:UInt8)],(4:Int),(0:Int))]/\(((((List.replicate (5:Nat) (((0:Int),(0:Int)),(0:Int),(0:Int))).set (0:Nat) (((0:Int),(0:Int)),(1:Int),(0:Int))).set (1:Nat) (((1:Int),(1:Int)),(2:Int),(0:Int))).set (2:Nat) (((2:Int),(1:Int)),(3:Int),(0:Int))).set (3:Nat) (((3:Int),(1:Int)),(5:Int),(0:Int))).set (4:Nat) (((2:Int),(2:Int)),(4:Int),(0:Int))=[(((0:Int),(0:Int)),(1:Int),(0:Int)),(((1:Int),(1:Int)),(2:Int),(0:Int)),(((2:Int),(1:Int)),(3:Int),(0:Int)),(((3:Int),(1:Int)),(5:Int),(0:Int)),(((2:Int),(2:Int)),(4:Int),(0:Int))]/\(((((List.replicate (5:Nat) ([],((0:Int),(0:Int)),false)).set (0:Nat) ([(119:UInt8)],((0:Int),(0:Int)),false)).set (1:Nat) ([(97:UInt8)],((1:Int),(1:Int)),false)).set (2:Nat) ([(101:UInt8)],((5:Int),(0:Int)),false)).set (3:Nat) ([(98:UInt8)],((3:Int),(0:Int)),false)).set (4:Nat) ([(99:UInt8)],((4:Int),(0:Int)),false)=[([(119:UInt8)],((0:Int),(0:Int)),false),([(97:UInt8)],((1:Int),(1:Int)),false),([(101:UInt8)],((5:Int),(0:Int)),false),([(98:UInt8)],((3:Int),(0:Int)),false),([(99:UInt8)],((4:Int),(0:Int)),false)]/\(([]:List lP),y0)=([],y0)/\True):=by kernel_rfl
theorem afu:fM Tryz.prog 57 Ry:=fM.cN (l:=[(110,VX)]) (A:=fun _=>aC) aM ⟨agW,trivial⟩ Tryz.func57 (by rfl) (by rfl) fun x _ hp=>by obtain⟨⟩:=x;rw[ai2];exact U.mk fun y0 e0=>⟨trivial,trivial,trivial,trivial,trivial,rfl,rfl,rfl,rfl,trivial⟩
def x6:ab:=(C4.1,C4.2.1,C4.2.2.1.set 1 ([97],(1,1),true),C4.2.2.2)
theorem Cd:(bn x6).2=true:=by kernel_rfl
def Yr:fc:=wH (cA x6)
def aIn:fu:=(List.replicate 6 false,[0,0,1,0,0,0],List.replicate 5 false,List.replicate 5 false)
def Sa:=nT Yr aIn [0] []
def HG:=nT Sa.1 aIn [] []
def abn:Bool:=(eJ (cA x6) Yr.2.1 [false,true]==[1])&&((Sa.2.2==0)&&((HG.2.2==0)&&((Sa.2.1.2.2==[0])&&(((HG.2.1.2.2.length:Int)==0)&&(((HG.1.2.1.length:Int)==6)&&(((HG.1.2.1.getD 1 gu).1==1)&&((HG.1.2.1.getD 0 gu).1==2)))))))
theorem UL:abn=true:=by kernel_rfl
theorem R4{W:fc}(h:ue W)(inn:fu)(calls aw:List Int):ue (nT W inn calls aw).1:=Ze h inn calls aw
theorem v14:ar (ao aK [(57,Ry),(21,K7),(28,FX),(27,Ek),(17,wC),(23,O5),(16,UB),(58,X9)]) Tryz.f14 K8 aC (())=( U [([(119:UInt8)],((0:Int),(0:Int)),false),([(97:UInt8)],((1:Int),(1:Int)),false),([(101:UInt8)],((5:Int),(0:Int)),false),([(98:UInt8)],((3:Int),(0:Int)),false),([(99:UInt8)],((4:Int),(0:Int)),false)] fun(y0:List gO)=>U [([(87:UInt8)],(4:Int),(0:Int)),([(65:UInt8)],(1:Int),(20:Int)),([(80:UInt8)],(2:Int),(10:Int)),([(66:UInt8)],(1:Int),(20:Int)),([(67:UInt8)],(1:Int),(30:Int)),([(69:UInt8)],(4:Int),(0:Int))] fun(y1:List nn)=>U (y0.set (Int.toNat (1:Int)) ([(97:UInt8)],((1:Int),(1:Int)),true)) fun(y2:List (List UInt8×(Int×Int)×Bool))=>U (y1,[(((0:Int),(0:Int)),(1:Int),(0:Int)),(((1:Int),(1:Int)),(2:Int),(0:Int)),(((2:Int),(1:Int)),(3:Int),(0:Int)),(((3:Int),(1:Int)),(5:Int),(0:Int)),(((2:Int),(2:Int)),(4:Int),(0:Int))],y2,[],(10:Int),(5:Int),(15:Int),(2:Int),false) fun(y3:ab)=>U (List.replicate (bn y3).1.length gu) fun(y4:List bk)=>U ((y3,(bn y3).1),y4,(max (0:Int) (min (y1.length:Int) (40:Int)),[],[],[],[]),(some (mK y3),[]),List.replicate y2.length (0:Int)) fun(y5:((ab)×List (ah))×List (Int×Int×Bool×List Bool)×(aA)×(Option (bt)×List ((Int×Int)×Bool))×List Int)=>U ((List.replicate (1:Nat) (0:Int)).set (0:Nat) (0:Int)) fun(y6:List Int)=>U (List.replicate (Int.toNat (6:Int)) false,((((((List.replicate (6:Nat) (0:Int)).set (0:Nat) (0:Int)).set (1:Nat) (0:Int)).set (2:Nat) (1:Int)).set (3:Nat) (0:Int)).set (4:Nat) (0:Int)).set (5:Nat) (0:Int),List.replicate (Int.toNat (5:Int)) false,List.replicate (Int.toNat (5:Int)) false) fun(y7:List Bool×List Int×List Bool×List Bool)=>U (nT y5 y7 y6 []).1 fun(y8:fc)=>U (nT y8 y7 [] []).1 fun(y9:fc)=>U (nT y5 y7 y6 []).2 fun(bK:xN×Int)=>U (nT y8 y7 [] []).2 fun(bO:xN×Int)=>U (bif bif eJ (c9 y3).1 y4 (((List.replicate (2:Nat) false).set (0:Nat) false).set (1:Nat) true)==(List.replicate (1:Nat) (0:Int)).set (0:Nat) (1:Int)then bK.2==(0:Int)else false then bO.2==(0:Int)else false) fun(aY:Bool)=>U (bif bif bif aY then bK.1.2.2==y6 else false then(bO.1.2.2.length:Int)==(0:Int)else false then(y9.2.1.length:Int)==(6:Int)else false) fun(cu:Bool)=>U ((0:Int),(0:Int),false,[]) fun(dr:Int×Int×Bool×List Bool)=>U (bif cu then(y9.2.1.getD (Int.toNat (1:Int)) dr).1==(1:Int)else false) fun(bX:Bool)=>True/\aU (1:Int) y0.length/\(bn y3).2=true/\(false=true->false=true/\True)/\(false=false->((0:Int)<=(6:Int)/\(6:Int)<=(6:Int))/\(roomFor (Int.toNat (6:Int)) (1:Nat)/\(6:Int)<=(bj:Int))/\((0:Int)<=(5:Int)/\(5:Int)<=(5:Int))/\(roomFor (Int.toNat (5:Int)) (1:Nat)/\(5:Int)<=(bj:Int))/\((0:Int)<=(5:Int)/\(5:Int)<=(5:Int))/\(roomFor (Int.toNat (5:Int)) (1:Nat)/\(5:Int)<=(bj:Int))/\da y3/\k8 y5/\(c9 y3).1.1.2.2.1.length<=(1000:Nat)/\Az y5 y6 []/\Az y8 [] []/\k8 y9/\True/\(aY=true->True)/\(cu=true->aU (1:Int) y9.2.1.length)/\(bX=true->aU (0:Int) y9.2.1.length)/\(bif bX then(y9.2.1.getD (Int.toNat (0:Int)) dr).1==(2:Int)else false)=true/\True)):=by kernel_rfl
theorem b14:ar (ao aK [(57,Ry),(21,K7),(28,FX),(27,Ek),(17,wC),(23,O5),(16,UB),(58,X9)]) Tryz.f14 K8 aC ():=by
 rw[v14];refine U.mk fun y0 e0=>U.mk fun y1 e1=>U.mk fun y2 e2=>U.mk fun y3 e3=>U.mk fun y4 e4=>U.mk fun y5 e5=>U.mk fun y6 e6=>U.mk fun y7 e7=>U.mk fun y8 e8=>U.mk fun y9 e9=>U.mk fun bK fB=>U.mk fun bO gk=>U.mk fun aY gj=>U.mk fun cu jN=>U.mk fun dr mv=>U.mk fun bX lN=>?_;have hs:=UL;unfold abn at hs;rw[af,af,af,af,af,af,af]at hs;obtain⟨q1,q2,q3,q4,q5,q6,q7,q8⟩:=hs;have h0:ue Yr:=Hf Cd;have h1:ue Sa.1:=R4 h0 _ _ _;have h2:ue HG.1:=R4 h1 _ _ _;have hb:c9 x6=(cA x6,0):=As Cd;have E0:y0.length=5:=by rw[e0];rfl
 have E3:y3=x6:=by rw[e3,e2,e1,e0];rfl
 have E5:y5=Yr:=by rw[e5,e4,E3,e2,e1,e0];rfl
 have E4:y4=Yr.2.1:=by rw[e4,E3];rfl
 have E6:y6=[0]:=by rw[e6];rfl
 have E7:y7=aIn:=by rw[e7];rfl
 have E8:y8=Sa.1:=by rw[e8,E5,E7,E6];rfl
 have E9:y9=HG.1:=by rw[e9,E8,E7];rfl
 have E10:bK=Sa.2:=by rw[fB,E5,E7,E6];rfl
 have E11:bO=HG.2:=by rw[gk,E8,E7];rfl
 have E12:aY=true:=by rw[gj,E3,E4,E10,E11,hb];show(bif bif(eJ (cA x6) Yr.2.1 [false,true]==[1])then Sa.2.2==0 else false then HG.2.2==0 else false)=true;rw[q1,q2,q3];rfl
 have E13:cu=true:=by rw[jN,E12,E10,E11,E9,E6];show(bif bif(Sa.2.1.2.2==[0])then(HG.2.1.2.2.length:Int)==0 else false then(HG.1.2.1.length:Int)==6 else false)=true;rw[q4,q5,q6];rfl
 have E15:bX=true:=by rw[lN,E13,E9,mv];exact q7
 have hlen:HG.1.2.1.length=6:=by have:=eq_of_beq q6;omega
 clear e0 e1 e2 e3 e4 e5 e6 e7 e8 e9 fB gk gj jN lN;subst E3 E5 E6 E7 E8 E9 E12 E13 E15;rw[hb,E0,hlen,mv];refine⟨trivial,⟨by decide,by decide⟩,Cd,fun h=>(by cases h),fun _=>⟨⟨by decide,by decide⟩,⟨dn (by decide) (by decide),by decide⟩,⟨by decide,by decide⟩,⟨dn (by decide) (by decide),by decide⟩,⟨by decide,by decide⟩,⟨dn (by decide) (by decide),by decide⟩,h0.short,h0.inv,by decide,⟨h0,by decide,by decide⟩,⟨h1,by decide,by decide⟩,h2.inv,trivial,fun _=>trivial,fun _=>⟨by decide,by decide⟩,fun _=>⟨by decide,by decide⟩,?_,trivial⟩⟩;exact q8
theorem aet:aT Tryz.prog 14 K8:=aT.cN (l:=[(57,Ry),(21,K7),(28,FX),(27,Ek),(17,wC),(23,O5),(16,UB),(58,X9)]) (A:=fun _=>aC) aM ⟨afu,aes,Zl,Zn,NK,aer,ak1,akU,trivial⟩ Tryz.func14 (by rfl) (by rfl) fun _ _ _=>b14
theorem v3(p:ab)(l:List (Int×Int×Bool×List Bool))(occ:List Bool):ar (ao aK [(14,K8),(15,Kj),(17,wC),(18,amA),(16,UB)]) Tryz.f3 c3 aC (p,l,occ,())=( U (bif bif !(bn p).2 then true else decide ((l.length:Int)>(100:Int))then true else decide ((occ.length:Int)>(60:Int))) fun(y3:Bool)=>U (eJ (p,(bn p).1) l occ) fun(y4:List Int)=>True/\((!true)=true->false=true/\True)/\((!true)=false->True/\(y3=true->true=true/\True)/\(y3=false->p.2.2.1.length<=(1000:Nat)/\p.2.2.1.length<=(1000:Nat)/\True/\(y4==y4)=true/\True))):=by kernel_rfl
theorem L8{c:aL}{ls:List bk}{occ:List Bool}{k:Nat}(h:k<(eJ c ls occ).length):∃s,s<c.1.2.2.1.length/\Gd c ls occ s ((eJ c ls occ).getD k 0):=by have hm:=jq (0:Int) h;generalize(eJ c ls occ).getD k 0=x at hm⊢;unfold eJ at hm;exact CP hm
theorem Ru{c:aL}{ls:List bk}{occ:List Bool}{k:Nat}(h:k<(eJ c ls occ).length):DD c (eJ c ls occ) k<(ax c ((eJ c ls occ).getD k 0)).1:=by cases k with|zero=>obtain⟨s,_,h2⟩:=L8 h;rw[h2.from_];show(-1:Int)<_;omega|succ k=>(have hr:(eJ c ls occ).Pairwise fun a b=>(ax c a).1<(ax c b).1:=by unfold eJ;exact Eh _);have:=List.pairwise_iff_getElem.1 hr k (k+1) (by omega) h (by omega);show(ax c ((eJ c ls occ).getD k 0)).1<_;rw[ph 0 h,ph 0 (by omega:k<(eJ c ls occ).length)];exact this
theorem v5(p:ab)(ls:List (Int×Int×Bool×List Bool))(occ:List Bool):ar (ao aK [(14,K8),(15,Kj),(17,wC)]) Tryz.f5 c5 (a5 (p,ls,occ,())) (p,ls,occ,())=( U (bif bif !(bn p).2 then true else decide ((ls.length:Int)>(100:Int))then true else decide ((occ.length:Int)>(60:Int))) fun(y3:Bool)=>U (NI (p,ls,occ,())) fun(y4:List Int)=>U (eJ (p,(bn p).1) ls occ) fun(y5:List Int)=>U ((0:Int),(0:Int),(0:Int),[],[],[],[],[],false) fun(y6:ah)=>U ((0:Int),(0:Int),false,[]) fun(y7:Int×Int×Bool×List Bool)=>True/\((!true)=true->false=true/\True)/\((!true)=false->True/\(y3=true->true=true/\True)/\(y3=false->p.2.2.1.length<=(1000:Nat)/\(∃(nI:Nat),nI<=y4.length/\(nI:Int)=(0:Int)/\DD (cA p) y4 nI=(-1:Int)/\ls=ls/\(bn p).1=(bn p).1/\y5=y5/\aJ p (True))/\∀(s8:Nat),U (decide ((s8:Int)<(y5.length:Int))) fun(y9:Bool)=>U (y5.getD (s8:Int).toNat (0:Int)) fun(bK:Int)=>U (bif decide (bK<(0:Int))then true else decide (bK>=(↑(bn p).1.length:Int))) fun(bO:Bool)=>U ((bn p).1.getD bK.toNat y6) fun(aY:ah)=>U (decide (aY.1<=DD (cA p) y4 s8)) fun(cu:Bool)=>U (bif cu then true else !(p.2.2.1.getD aY.1.toNat ([],((0:Int),(0:Int)),false)).2.2) fun(dr:Bool)=>U (bif dr then true else aY.2.2.2.2.2.2.2.2) fun(bX:Bool)=>s8<=y4.length->(y9=true->aU (s8:Int) y5.length/\(decide (bK<(0:Int))=false->aU (s8:Int) y5.length)/\(bO=true->false=true/\True)/\(bO=false->aU (s8:Int) y5.length/\aU bK (bn p).1.length/\(cu=false->aU aY.1 p.2.2.1.length)/\(dr=false->aU (s8:Int) y5.length)/\(dr=false->aU bK (bn p).1.length)/\(bX=true->false=true/\True)/\(bX=false->(∃(zq:Nat),zq<=(bn p).1.length/\(zq:Int)=(0:Int)/\ls=ls/\(bn p).1=(bn p).1/\y5=y5/\(s8:Int)=(s8:Int)/\aY.1=aY.1/\aJ p (True))/\∀(qb:Nat),U (decide ((qb:Int)<(↑(bn p).1.length:Int))) fun(dz:Bool)=>U ((bn p).1.getD (qb:Int).toNat y6) fun(eF:ah)=>U (decide ((qb:Int)<(ls.length:Int))) fun(gy:Bool)=>U (bif gy then(ls.getD (qb:Int).toNat y7).1!=(0:Int)else false) fun(eH:Bool)=>U (bif eF.1==aY.1 then bif eH then true else bif decide ((qb:Int)<bK)then !eF.2.2.2.2.2.2.2.2 else false else false) fun(gp:Bool)=>qb<=(bn p).1.length->(dz=true->aU (qb:Int) (bn p).1.length/\((eF.1==aY.1)=true->gy=true->aU (qb:Int) ls.length)/\((eF.1==aY.1)=true->eH=false->aU (s8:Int) y5.length)/\((eF.1==aY.1)=true->eH=false->decide ((qb:Int)<bK)=true->aU (qb:Int) (bn p).1.length)/\(gp=true->false=true/\True)/\(gp=false->bF IntKind.i64 ((qb:Int)+(1:Int))/\∃(kK:Nat),kK<=(bn p).1.length/\(bn p).1.length-kK<(bn p).1.length-qb/\(kK:Int)=(qb:Int)+(1:Int)/\ls=ls/\(bn p).1=(bn p).1/\y5=y5/\(s8:Int)=(s8:Int)/\aY.1=aY.1/\aJ p (True)))/\(dz=false->bF IntKind.i64 ((s8:Int)+(1:Int))/\∃(kK:Nat),kK<=y4.length/\y4.length-kK<y4.length-s8/\(kK:Int)=(s8:Int)+(1:Int)/\DD (cA p) y4 kK=aY.1/\ls=ls/\(bn p).1=(bn p).1/\y5=y5/\aJ p (True)))))/\(y9=false->true=true/\True)))):=by kernel_rfl
theorem b5(p:ab)(ls:List bk)(occ:List Bool):ar (ao aK [(14,K8),(15,Kj),(17,wC)]) Tryz.f5 c5 (a5 (p,ls,occ,())) (p,ls,occ,()):=by
 rw[v5];simp only[dY,aB,au,bB,iV,Bool.false_eq_true,Bool.true_eq_false,false_implies,true_implies,implies_true];refine U.mk fun y3 e3=>U.mk fun y4 e4=>U.mk fun y5 e5=>U.mk fun y6 e6=>U.mk fun y7 e7=>fun h3=>?_;have hR:(bn p).2=true:=by cases hr:(bn p).2 with|true=>rfl|false=>rw[e3,hr]at h3;cases h3
 have hr:=uM hR;have mH:=pb hr.check;have hlen:=hr.len;have h5:y5=eJ (cA p) ls occ:=e5;have h4:y4=y5:=by rw[h5,e4];rfl
 have oL:=D7 (cA p) ls occ;rw[<-h5]at oL;have oL:y5.length<=p.2.2.1.length:=oL;clear e4 e5 e3;subst h4;refine⟨by omega,⟨0,cX _,rfl,rfl⟩,fun s=>U.mk fun y9 e9=>U.mk fun bK fB=>U.mk fun bO gk=>U.mk fun aY gj=>U.mk fun cu jN=>U.mk fun dr mv=>U.mk fun bX lN=>fun hs h9=>?_⟩;have iL:=aj (e9.symm.trans h9);have iL:s<y4.length:=by omega
 rw[ai]at fB;have nk:aU (s:Int) y4.length:=⟨by omega,by omega⟩;obtain⟨t,ht,hc⟩:=L8 (c:=cA p) (ls:=ls) (occ:=occ) (k:=s) (by rw[<-h5];exact iL);have hla:=Ru (c:=cA p) (ls:=ls) (occ:=occ) (k:=s) (by rw[<-h5];exact iL);rw[<-h5,<-fB]at hc hla;have Vr:aY=ax (cA p) bK:=by rw[gj,e6];rfl
 have ahI:0<=bK/\bK<((bn p).1.length:Int):=hc.here;have yp:aY.1=(t:Int):=by rw[Vr];exact hc.from_
 have ht:t<p.2.2.1.length:=ht;have aeG:aU bK (bn p).1.length:=ahI;have sq:bO=false:=by rw[gk,ba (by omega:¬bK<0)];exact ba (by omega)
 have rl:cu=false:=by rw[jN];refine ba ?_;rw[Vr];omega
 have FL:dr=false:=by rw[mv,rl,yp,ai];show(!(p.2.2.1.getD t zS).2.2)=false;have:=hc.auto;rw[show(p.2.2.1.getD t zS).2.2=true from this];rfl
 have Xs:bX=false:=by rw[lN,FL,Vr,hc.bare];rfl
 clear gk jN mv lN;subst sq rl FL Xs;refine⟨nk,fun _=>nk,fun h=>(by cases h),fun _=>⟨nk,aeG,fun _=>⟨by omega,by omega⟩,fun _=>nk,fun _=>aeG,fun h=>(by cases h),fun _=>⟨⟨0,cX _,rfl⟩,fun k=>U.mk fun dz n8=>U.mk fun eF r6=>U.mk fun gy r5=>U.mk fun eH te=>U.mk fun gp yB=>fun hk=>⟨fun h17=>?_,fun h17=>?_⟩⟩⟩⟩;have T2:k<(bn p).1.length:=by have:=aj (n8.symm.trans h17);omega
 have QS:aU (k:Int) (bn p).1.length:=⟨by omega,by omega⟩;rw[ai]at r6 te;have aeC:eF=(cA p).2.getD k zR:=by rw[r6,e6];rfl
 have Ue:gp=false:=by rw[yB];cases hf:(eF.1==aY.1)with|false=>rfl|true=>have hf:=eq_of_beq hf;have ll:=PA hc.afg (k:=k) T2 (by rw[<-aeC,hf,yp]);(have DW:eH=false:=by rw[te,r5];by_cases hl:(k:Int)<(ls.length:Int);rw[cO hl];unfold nA at ll;rw[ba (by omega:¬(k:Int)<0),ba (by omega:¬(ls.length:Int)<=(k:Int)),ai]at ll;have ll:(ls.getD k gu).1=0:=ll;rw[e7];show((ls.getD k gu).1!=0)=false;rw[ll];rfl;rw[ba hl];rfl);rw[DW];by_cases hl:(k:Int)<bK;have:=hc.first k hl;unfold gL at this;rw[<-aeC,hf,yp]at this;rw[cO hl];show(!eF.2.2.2.2.2.2.2.2)=false;simpa using this;rw[ba hl];rfl
 refine⟨QS,fun _ h=>?_,fun _ _=>nk,fun _ _ _=>QS,fun h=>?_,fun _=>⟨bD (by omega) (by omega),k+1,by omega,by omega,by omega⟩⟩;have:=aj (r5.symm.trans h);exact⟨by omega,this⟩;rw[Ue]at h;cases h;refine⟨bD (by omega) (by omega),s+1,by omega,by omega,by omega,?_⟩;show(ax (cA p) (y4.getD s 0)).1=_;rw[<-fB,Vr]
theorem ok5:aT Tryz.prog 5 c5:=aT.cN (l:=[(14,K8),(15,Kj),(17,wC)]) (A:=a5) aM ⟨aet,Zv,NK,trivial⟩ Tryz.func5 (by rfl) (by rfl) fun x hw hp=>b5 x.1 x.2.1 x.2.2.1
theorem v6(p:ab)(i:Int):ar (ao aK [(14,K8),(15,Kj),(21,K7),(23,O5),(28,FX),(27,Ek),(17,wC),(29,xD)]) Tryz.f6 c6 (a6 (p,i,())) (p,i,())=( U (bif !(bn p).2 then true else(↑(bn p).1.length:Int)==(0:Int)) fun(y2:Bool)=>U (i.tmod (↑(bn p).1.length:Int)) fun(y3:Int)=>U ((0:Int),(0:Int),(0:Int),[],[],[],[],[],false) fun(y4:ah)=>U ((bn p).1.getD y3.toNat y4).2 fun(y5:Int×Int×List (Int×Int×Int)×List (Int×Int)×List (Int×Int)×List Int×List Int×Bool)=>U (bif y5.2.2.2.2.2.2.2 then true else y5.2.1!=(1:Int)) fun(y6:Bool)=>U (bif y6 then true else !(p.2.2.1.getD y5.1.toNat ([],((0:Int),(0:Int)),false)).2.2) fun(y7:Bool)=>U ((p,(bn p).1),List.replicate (bn p).1.length gu,(max (0:Int) (min (p.1.length:Int) (40:Int)),[],[],[],[]),(some (mK p),[]),List.replicate p.2.2.1.length (0:Int)) fun(y8:((ab)×List (ah))×List (Int×Int×Bool×List Bool)×(aA)×(Option (bt)×List ((Int×Int)×Bool))×List Int)=>U ((List.replicate (1:Nat) (0:Int)).set (0:Nat) y3) fun(y9:List Int)=>U (List.replicate (p.1.length:Int).toNat false) fun(bK:List Bool)=>U (List.replicate (p.2.2.1.length:Int).toNat false) fun(bO:List Bool)=>U (nT y8 (bK,List.replicate (p.1.length:Int).toNat (0:Int),bO,bO) y9 []).1 fun(aY:fc)=>U (ax (cA p) (runK (p,i,()))).2.1 fun(cu:Int)=>U (eJ (c9 aY.1.1).1 aY.2.1 bK) fun(dr:List Int)=>True/\((!true)=true->false=true/\True)/\((!true)=false->True/\(y2=true->true=true/\True)/\(y2=false->(↑(bn p).1.length:Int)≠(0:Int)/\aU y3 (bn p).1.length/\(y5.2.2.2.2.2.2.2=false->aU y3 (bn p).1.length)/\(y6=false->aU y3 (bn p).1.length)/\(y6=false->aU y5.1 p.2.2.1.length)/\(y7=true->true=true/\True)/\(y7=false->(bn p).2=true/\(false=true->false=true/\True)/\(false=false->((0:Int)<=(p.1.length:Int)/\(p.1.length:Int)<=(p.1.length:Int))/\(roomFor (p.1.length:Int).toNat (1:Nat)/\(p.1.length:Int)<=(bj:Int))/\((0:Int)<=(p.1.length:Int)/\(p.1.length:Int)<=(p.1.length:Int))/\(roomFor (p.1.length:Int).toNat (8:Nat)/\(p.1.length:Int)<=(bj:Int))/\((0:Int)<=(p.2.2.1.length:Int)/\(p.2.2.1.length:Int)<=(p.2.2.1.length:Int))/\(roomFor (p.2.2.1.length:Int).toNat (1:Nat)/\(p.2.2.1.length:Int)<=(bj:Int))/\((0:Int)<=(p.2.2.1.length:Int)/\(p.2.2.1.length:Int)<=(p.2.2.1.length:Int))/\(roomFor (p.2.2.1.length:Int).toNat (1:Nat)/\(p.2.2.1.length:Int)<=(bj:Int))/\Az y8 y9 []/\da aY.1.1/\k8 aY/\(c9 aY.1.1).1.1.2.2.1.length<=(1000:Nat)/\(∃(ma:Nat),ma<=(bn p).1.length/\(ma:Int)=(0:Int)/\pj (cA p) cu ma=(-1:Int)/\(bn p).1=(bn p).1/\y3=y3/\dr=dr/\True)/\∀(eN:Nat),U (decide (pj (cA p) cu eN<(0:Int))) fun(dA:Bool)=>U (bif decide ((eN:Int)<(↑(bn p).1.length:Int))then dA else false) fun(dz:Bool)=>U ((bn p).1.getD (eN:Int).toNat y4) fun(eF:ah)=>eN<=(bn p).1.length->(dz=true->aU (eN:Int) (bn p).1.length/\aU y3 (bn p).1.length/\((eF.1==y5.1)=true->aU (eN:Int) (bn p).1.length)/\bF IntKind.i64 ((eN:Int)+(1:Int))/\∃(uf:Nat),uf<=(bn p).1.length/\(bn p).1.length-uf<(bn p).1.length-eN/\(uf:Int)=(eN:Int)+(1:Int)/\(pj (cA p) cu uf=bif bif eF.1==y5.1 then !eF.2.2.2.2.2.2.2.2 else false then(eN:Int)else pj (cA p) cu eN)/\(bn p).1=(bn p).1/\y3=y3/\dr=dr/\True)/\(dz=false->(dA=false->True)/\(bif dA then true else cd dr (pj (cA p) cu eN))=true/\True)))))):=by kernel_rfl
theorem Ra{c:aL}{s:Int}{k:Nat}(h:¬pj c s k<0):∃j,j<k/\pj c s k=(j:Int)/\cI (gL c s) j=false/\gL c s j=true:=by unfold pj dR at h⊢;cases hf:(List.range k).find? (gL c s)with|none=>rw[hf]at h;exact absurd (by show(-1:Int)<0;omega) h|some i=>rw[List.find?_range_eq_some]at hf;exact⟨i,List.mem_range.1 hf.2.1,rfl,fw.2 fun j hj=>by simpa using hf.2.2 j hj,hf.1⟩
theorem b6(p:ab)(i:Int)(hi:0<=i):ar (ao aK [(14,K8),(15,Kj),(21,K7),(23,O5),(28,FX),(27,Ek),(17,wC),(29,xD)]) Tryz.f6 c6 (a6 (p,i,())) (p,i,()):=by
 rw[v6];simp only[dY,aB,au,bB,iV,Bool.false_eq_true,Bool.true_eq_false,false_implies,true_implies,implies_true];refine U.mk fun y2 e2=>U.mk fun y3 e3=>U.mk fun y4 e4=>U.mk fun y5 e5=>U.mk fun y6 e6=>U.mk fun y7 e7=>U.mk fun y8 e8=>U.mk fun y9 e9=>U.mk fun bK fB=>U.mk fun bO gk=>U.mk fun aY gj=>U.mk fun cu jN=>U.mk fun dr mv=>fun h2=>?_;have key:∀a c:Bool,(bif !a then true else c)=false->a=true/\c=false:=by decide
 obtain⟨hR,hN⟩:=key _ _ (e2.symm.trans h2);have hr:=uM hR;have mH:=pb hr.check;have hn0:((bn p).1.length:Int)≠0:=fun h=>by rw[h]at hN;cases hN
 have hy3:0<=y3/\y3<((bn p).1.length:Int):=by rw[e3,Int.tmod_eq_emod_of_nonneg hi];exact⟨Int.emod_nonneg _ hn0,Int.emod_lt_of_pos _ (by omega)⟩
 have nk:aU y3 (bn p).1.length:=hy3;have Xi:y5=(ax (cA p) y3).2:=by rw[e5,e4];rfl
 have wk:ax (cA p) y3∈(bn p).1:=jO (c:=cA p) hy3;refine⟨hn0,nk,fun _=>nk,fun _=>nk,fun h6=>?_,fun h7=>?_⟩;have h1:(ax (cA p) y3).2.2.1=1:=by rw[e6]at h6;rw[<-Xi];revert h6;cases y5.2.2.2.2.2.2.2<;>simp
 have:=II hr wk h1;rw[Xi];exact⟨this.2.1,this.2.2⟩;have h6:y6=false:=by rw[e7]at h7;revert h7;cases y6<;>simp
 have LY:(ax (cA p) y3).2.2.1=1:=by rw[e6]at h6;rw[<-Xi];revert h6;cases y5.2.2.2.2.2.2.2<;>simp
 have ahT:(ax (cA p) y3).2.2.2.2.2.2.2.2=false:=by rw[e6]at h6;rw[<-Xi];revert h6;cases y5.2.2.2.2.2.2.2<;>simp
 have ahU:(p.2.2.1.getD (ax (cA p) y3).2.1.toNat zS).2.2=true:=by rw[e7,h6,Xi]at h7;have h7:(!(p.2.2.1.getD (ax (cA p) y3).2.1.toNat zS).2.2)=false:=h7;simpa using h7
 obtain⟨k,rfl⟩:∃k:Nat,y3=(k:Int):=⟨y3.toNat,by omega⟩;have h0:ue (wH (cA p)):=Hf hR;have hE8:y8=wH (cA p):=by rw[e8];rfl
 have hE9:y9=[(k:Int)]:=by rw[e9];rfl
 rw[ai]at fB gk;have aeH:(bK,List.replicate (p.1.length:Int).toNat (0:Int),bO,bO)=ml p [] []:=by unfold ml;rw[fB,gk,Fc,Fc,ai]
 have hv:tm bK:=by have:=uk p [];rw[<-aeH]at this;exact this
 have T3:eJ (wH (cA p)).1 (wH (cA p)).2.1 (ml p [] []).1=[]:=Rv h0.inv.inv.len (Cy _) (uk p []);have aeP:aY=(gM (wH (cA p)) (ml p [] []) [(k:Int)] []).1:=by rw[gj,hE8,hE9,aeH,R3 T3]
 have Ol:=aaX (W:=wH (cA p)) h0.inv (i:=k) (by have:=hy3.2;show k<(bn p).1.length;omega) ahT [] [] (by rw[Gu (Cy _) _ (by have:=h0.inv.inv.len;omega)];exact Cy _);have Ol:Po aY k:=by rw[aeP];exact Ol.1
 have FH:aY.1=cA p:=by rw[aeP];exact zj _ _ _ _
 have oZ:aY.1.1=p:=by rw[FH];rfl
 have FI:dr=eJ aY.1 aY.2.1 bK:=by rw[mv,oZ,FH,As hR]
 have aeO:cu=(ax (cA p) (k:Int)).2.1:=by rw[jN];have:runK (p,i,())=(k:Int):=e3.symm;rw[this]
 have hs9:y9.length<=900:=by rw[hE9];show 1<=900;omega
 have sT:∀n:Nat,((n:Int).toNat)=n:=fun n=>ai n;have hmx:(1000:Nat)<=bj:=by decide
 refine⟨hR,⟨by omega,by omega⟩,⟨dn (by rw[sT];omega) (by omega),?_⟩,⟨by omega,by omega⟩,⟨dn (by rw[sT];omega) (by omega),?_⟩,⟨by omega,by omega⟩,⟨dn (by rw[sT];omega) (by omega),?_⟩,⟨by omega,by omega⟩,⟨dn (by rw[sT];omega) (by omega),?_⟩,⟨by rw[hE8];exact h0,hs9,cX _⟩,by rw[oZ];exact hr.short,Ol.inv,by rw[oZ,As hR];show p.2.2.1.length<=1000;omega,⟨0,cX _,rfl,rfl⟩,fun j=>U.mk fun dA n9=>U.mk fun dz n8=>U.mk fun eF r6=>fun hj=>⟨fun h=>?_,fun h=>?_⟩⟩;any_goals(show _<=((bj:Nat):Int);omega)
 obtain⟨q1,q2⟩:=vM (n8.symm.trans h);have hjl:j<(bn p).1.length:=by have:=aj q1;omega
 rw[ai]at r6;have QS:aU (j:Int) (bn p).1.length:=⟨by omega,by omega⟩;have aab:=aj (n9.symm.trans q2);have hlen:=hr.len;refine⟨QS,nk,fun _=>QS,bD (by omega) (by omega),j+1,by omega,by omega,by omega,?_⟩;show oK (dR (gL (cA p) cu) (j+1))=_;rw[Rb];have:gL (cA p) cu j=((eF.1==y5.1)&&!eF.2.2.2.2.2.2.2.2):=by rw[r6,e4,aeO,Xi];rfl
 rw[this];show(bif decide (pj (cA p) cu j<0)&&_ then(j:Int)else pj (cA p) cu j)=_;rw[cO aab];cases(eF.1==y5.1)<;>cases eF.2.2.2.2.2.2.2.2<;>rfl;cases OD:dA with|true=>rfl|false=>have aab:=av (n9.symm.trans OD);obtain⟨m,hm,e,h1,h2⟩:=Ra aab;rw[FI,e];(have Hr:(ax aY.1 (k:Int)).2.1=cu:=by rw[FH,aeO]);(have KZ:m<aY.1.2.length:=by rw[FH];show m<(bn p).1.length;omega);have hmm:=SL hr FH Ol (by rw[FH];exact LY) (by rw[FH];exact ahU) bK (j:=m) KZ (by rw[Hr,FH];exact h1) (by rw[Hr,FH];exact h2);show cd _ _=true;unfold cd;exact List.any_eq_true.2 ⟨_,hmm,beq_self_eq_true _⟩
theorem ok6:aT Tryz.prog 6 c6:=aT.cN (l:=[(14,K8),(15,Kj),(21,K7),(23,O5),(28,FX),(27,Ek),(17,wC),(29,xD)]) (A:=a6) aM ⟨aet,Zv,aes,aer,Zl,Zn,NK,LG,trivial⟩ Tryz.func6 (by rfl) (by rfl) fun x hw hp=>b6 x.1 x.2.1 (ac0 hw.2.1).1
end YtklcddahddbjcaaGreat
end Go.Proofs
namespace Go.Proofs.YtklcddahddbjcaaGreat
open Go Go.Vc
open Go.ChangeShapes Go.WideShapes Go.ChangeAt Go.RowKit
open Go.ChangeMaps (open_string shut_string)
theorem own:ownKnob Tryz.prog.godebug=none:=by kernel_rfl
theorem laidOut:laidOutB Tryz.prog=true:=by kernel_rfl
theorem law_calls{P:Program}{f:Nat}{ts:List Ty}(h:aT P f (HS ts)){W:World}{x:kG ts}{vs:List Value}(hv:my (tY W) ts x vs):Calls P f vs.toArray W fun e w'=>e=.returned (.bool true)/\Below W.heap.size W w':=by refine(h.calls (tY W) W x vs (fun b o h=>h) hv trivial).mono fun e w'=>?_;rintro⟨v,F',rfl,_,_,_,hk,xv⟩;have xv:[v]=[Value.bool true]:=xv;simp only[fv,au]at xv;exact⟨by rw[xv],⟨hk.os,hk.tape,hk.output,hk.size,fun k Bq=>hk.block k Bq (fun h=>h)⟩⟩
end Go.Proofs.YtklcddahddbjcaaGreat
